/- Proved here: what the law on reports keeps in memory while it lays its names and costs in both orders. -/
import Derived.Test.YtdalfkdfpeffdaaDoorMX
import Derived.Test.YtdalfkdfpeffdaaDoorMY
import Derived.Maps.AppendAt
import Derived.Laws.OwnMore
namespace Go.Proofs.YtdalfkdfpeffdaaDoor
open Go.RowKit

theorem rows_apart {A B : Nat} {e f : TypeId} {s t n m : Nat} {v u : Value} {xs ys : List Value} {w : World} (hv : w.ownsRow A e s v n xs) (hu : w.ownsRow B f t u m ys) (hne : e ≠ f) (hs : v.ownBlock ≠ none) : v.ownBlock ≠ u.ownBlock := by
  intro h
  rcases hv.2 with ⟨e3, _⟩ | ⟨g, cap, cur, e3, _, hh, _⟩
  · rw [e3] at hs; exact hs rfl
  · rcases hu.2 with ⟨e4, _⟩ | ⟨g2, cap2, cur2, e4, _, hh2, _⟩
    · rw [e4, e3] at h; cases h
    · rw [e3, e4] at h
      have hg : g = g2 := by
        simp only [Value.ownBlock, Option.some.injEq] at h
        exact h
      subst hg
      rw [hh] at hh2
      injection hh2 with hh2
      injection hh2 with _ h4 _
      exact hne h4

/-- The cells of costs, one behind the other. -/
def cellsC (cs : List C4) : List Value := cs.flatMap fun c => [.int .i64 c.i, .int .i64 c.s, .int .i64 c.m, .int .i64 c.k]
theorem cellsC_length (cs : List C4) : (cellsC cs).length = cs.length * 4 := by
  induction cs with
  | nil => rfl
  | cons c cs ih =>
    have e : cellsC (c :: cs) = [.int .i64 c.i, .int .i64 c.s, .int .i64 c.m, .int .i64 c.k] ++ cellsC cs := rfl
    rw [e, List.length_append, ih]; simp; omega
theorem cellsC_append (a b : List C4) : cellsC (a ++ b) = cellsC a ++ cellsC b := by simp [cellsC]
theorem cellsC_at : ∀ (cs : List C4) (j : Nat) (c : C4), cs[j]? = some c → (cellsC cs)[j * 4]? = some (.int .i64 c.i) ∧ (cellsC cs)[j * 4 + 1]? = some (.int .i64 c.s) ∧ (cellsC cs)[j * 4 + 2]? = some (.int .i64 c.m) ∧ (cellsC cs)[j * 4 + 3]? = some (.int .i64 c.k)
  | [], j, c, h => by simp at h
  | d :: cs, 0, c, h => by
    simp only [List.getElem?_cons_zero, Option.some.injEq] at h
    subst h
    exact ⟨rfl, rfl, rfl, rfl⟩
  | d :: cs, j + 1, c, h => by
    have h1 := cellsC_at cs j c (by simpa using h)
    have e : cellsC (d :: cs) = [.int .i64 d.i, .int .i64 d.s, .int .i64 d.m, .int .i64 d.k] ++ cellsC cs := rfl
    have e2 : ∀ q, (cellsC (d :: cs))[(j + 1) * 4 + q]? = (cellsC cs)[j * 4 + q]? := by
      intro q
      rw [e, List.getElem?_append_right (by simp; omega)]
      congr 1
      simp
      omega
    have e3 := e2 0
    simp only [Nat.add_zero] at e3
    exact ⟨e3.trans h1.1, (e2 1).trans h1.2.1, (e2 2).trans h1.2.2.1, (e2 3).trans h1.2.2.2⟩

/-- The names and costs in both orders, as far as they are laid. -/
structure RepSt (A : Nat) (v7 v8 v9 v10 : Value) (l7 l8 : List ByteArray) (l9 l10 : List C4) (w wr : World) : Prop where
  o7 : wr.ownsRow A 9 1 v7 l7.length (l7.map Value.string)
  o8 : wr.ownsRow A 9 1 v8 l8.length (l8.map Value.string)
  o9 : wr.ownsRow A 26 4 v9 l9.length (cellsC l9)
  o10 : wr.ownsRow A 26 4 v10 l10.length (cellsC l10)
  s7 : v7.ownBlock ≠ none
  s8 : v8.ownBlock ≠ none
  s9 : v9.ownBlock ≠ none
  s10 : v10.ownBlock ≠ none
  n78 : v7.ownBlock ≠ v8.ownBlock
  n910 : v9.ownBlock ≠ v10.ownBlock
  below : Below A w wr
  env0 : Env w
  size : A = w.heap.size
theorem RepSt.env {A : Nat} {v7 v8 v9 v10 : Value} {l7 l8 : List ByteArray} {l9 l10 : List C4} {w wr : World} (h : RepSt A v7 v8 v9 v10 l7 l8 l9 l10 w wr) : Env wr := by
  have := h.size
  subst this
  exact h.env0.next h.below
theorem RepSt.le {A : Nat} {v7 v8 v9 v10 : Value} {l7 l8 : List ByteArray} {l9 l10 : List C4} {w wr : World} (h : RepSt A v7 v8 v9 v10 l7 l8 l9 l10 w wr) : A ≤ wr.heap.size := by
  have h1 := h.below.size
  have h2 := h.size
  omega
theorem RepSt.next {A : Nat} {v7 v8 v9 v10 : Value} {l7 l8 : List ByteArray} {l9 l10 : List C4} {w wr w2 : World} (h : RepSt A v7 v8 v9 v10 l7 l8 l9 l10 w wr) (hb : Below wr.heap.size wr w2) : RepSt A v7 v8 v9 v10 l7 l8 l9 l10 w w2 :=
  ⟨own_below h.o7 hb, own_below h.o8 hb, own_below h.o9 hb, own_below h.o10 hb, h.s7, h.s8, h.s9, h.s10, h.n78, h.n910, h.below.trans (hb.mono h.le), h.env0, h.size⟩

theorem own_lt {A n : Nat} {e : TypeId} {s : Nat} {v : Value} {xs : List Value} {w : World} (h : w.ownsRow A e s v n xs) (k : Nat) (hk : v.ownBlock = some k) : k < w.heap.size := (h.lt k hk).2
theorem blk_ne {v u : Value} {H : Nat} {w : World} {A n : Nat} {e : TypeId} {s : Nat} {xs : List Value} (h : w.ownsRow A e s v n xs) (_hs : v.ownBlock ≠ none) (hH : w.heap.size ≤ H) (hu : u.ownBlock = some H) : v.ownBlock ≠ u.ownBlock := by
  intro e2
  rw [hu] at e2
  have := own_lt h H e2
  omega
theorem some_of {v u : Value} {H : Nat} (hs : u.ownBlock ≠ none) (h : v.ownBlock = u.ownBlock ∨ v.ownBlock = some H) : v.ownBlock ≠ none := by
  rcases h with h | h
  · rw [h]; exact hs
  · rw [h]; exact fun e => by cases e

/-- An element behind a row; the other rows stand. -/
theorem RepSt.push7 {A : Nat} {v7 v8 v9 v10 v' : Value} {l7 l8 : List ByteArray} {l9 l10 : List C4} {w wr w3 : World} {x : ByteArray} {n : Nat} (h : RepSt A v7 v8 v9 v10 l7 l8 l9 l10 w wr) (hn : n = l7.length + 1)
    (hown : w3.ownsRow A 9 1 v' n (l7.map Value.string ++ [.string x])) (hg : wr.grownBy w3 v7.ownBlock) (hor : v'.ownBlock = v7.ownBlock ∨ v'.ownBlock = some wr.heap.size) : RepSt A v' v8 v9 v10 (l7 ++ [x]) l8 l9 l10 w w3 := by
  have a9 := rows_apart h.o9 h.o7 (by decide) h.s9
  have a10 := rows_apart h.o10 h.o7 (by decide) h.s10
  refine ⟨by subst hn; simpa using hown, h.o8.kept hg (.inr h.n78.symm), h.o9.kept hg (.inr a9), h.o10.kept hg (.inr a10), some_of h.s7 hor, h.s8, h.s9, h.s10, ?_, h.n910, h.below.grown hg h.le (fun k hk => (h.o7.lt k hk).1), h.env0, h.size⟩
  rcases hor with e | e
  · rw [e]; exact h.n78
  · exact (blk_ne h.o8 h.s8 (Nat.le_refl _) e).symm
theorem RepSt.push9 {A : Nat} {v7 v8 v9 v10 v' : Value} {l7 l8 : List ByteArray} {l9 l10 : List C4} {w wr w3 : World} {x : C4} {n : Nat} (h : RepSt A v7 v8 v9 v10 l7 l8 l9 l10 w wr) (hn : n = l9.length + 1)
    (hown : w3.ownsRow A 26 4 v' n (cellsC l9 ++ [.int .i64 x.i, .int .i64 x.s, .int .i64 x.m, .int .i64 x.k])) (hg : wr.grownBy w3 v9.ownBlock) (hor : v'.ownBlock = v9.ownBlock ∨ v'.ownBlock = some wr.heap.size) : RepSt A v7 v8 v' v10 l7 l8 (l9 ++ [x]) l10 w w3 := by
  have a7 := rows_apart h.o7 h.o9 (by decide) h.s7
  have a8 := rows_apart h.o8 h.o9 (by decide) h.s8
  refine ⟨h.o7.kept hg (.inr a7), h.o8.kept hg (.inr a8), by subst hn; rw [cellsC_append]; simpa [cellsC] using hown, h.o10.kept hg (.inr h.n910.symm), h.s7, h.s8, some_of h.s9 hor, h.s10, h.n78, ?_, h.below.grown hg h.le (fun k hk => (h.o9.lt k hk).1), h.env0, h.size⟩
  rcases hor with e | e
  · rw [e]; exact h.n910
  · exact (blk_ne h.o10 h.s10 (Nat.le_refl _) e).symm
/-- A new row in a row's place; the other rows stand. -/
theorem RepSt.set8 {A : Nat} {v7 v8 v9 v10 v' : Value} {l7 l8 l' : List ByteArray} {l9 l10 : List C4} {w wr w3 : World} {H : Nat} {xs : List Value} {n : Nat} (h : RepSt A v7 v8 v9 v10 l7 l8 l9 l10 w wr) (hn : n = l'.length) (hxs : xs = l'.map Value.string)
    (hown : w3.ownsRow A 9 1 v' n xs) (hb : Below wr.heap.size wr w3) (hor : v'.ownBlock = some H) (hH : wr.heap.size ≤ H) : RepSt A v7 v' v9 v10 l7 l' l9 l10 w w3 := by
  have h2 := h.next hb
  subst hn
  subst hxs
  exact ⟨h2.o7, hown, h2.o9, h2.o10, h.s7, by rw [hor]; exact (fun e => by cases e), h.s9, h.s10, blk_ne h.o7 h.s7 hH hor, h.n910, h2.below, h.env0, h.size⟩
theorem RepSt.set10 {A : Nat} {v7 v8 v9 v10 v' : Value} {l7 l8 : List ByteArray} {l9 l10 l' : List C4} {w wr w3 : World} {H : Nat} {xs : List Value} {n : Nat} (h : RepSt A v7 v8 v9 v10 l7 l8 l9 l10 w wr) (hn : n = l'.length) (hxs : xs = cellsC l')
    (hown : w3.ownsRow A 26 4 v' n xs) (hb : Below wr.heap.size wr w3) (hor : v'.ownBlock = some H) (hH : wr.heap.size ≤ H) : RepSt A v7 v8 v9 v' l7 l8 l9 l' w w3 := by
  have h2 := h.next hb
  subst hn
  subst hxs
  exact ⟨h2.o7, h2.o8, h2.o9, hown, h.s7, h.s8, h.s9, by rw [hor]; exact (fun e => by cases e), h.n78, blk_ne h.o9 h.s9 hH hor, h2.below, h.env0, h.size⟩
end Go.Proofs.YtdalfkdfpeffdaaDoor
