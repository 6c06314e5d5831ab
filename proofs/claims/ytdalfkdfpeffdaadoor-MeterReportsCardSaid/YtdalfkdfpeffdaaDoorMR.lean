/- Proved here: MeterReports returns true, for every input. -/
import Derived.Test.YtdalfkdfpeffdaaDoorMN
import Derived.Test.YtdalfkdfpeffdaaDoorMR0
import Derived.BigRegion
import Derived.BigQuiet
import Derived.StillTailTactics
import Derived.Deep.RegionHeld3
namespace Go.Proofs.YtdalfkdfpeffdaaDoor
open Go.RowKit

/-- The costs that the law is given: rows of four small numbers. -/
def QuadsAt (a : Option Addr) (cs : List C4) (w : World) : Prop :=
  cs = [] ∨ ∃ b off, a = some ⟨b, off, none⟩ ∧ b < w.heap.size ∧ ∀ (j : Nat) (c : C4), cs[j]? = some c →
    w.cell? ⟨b, off + j * 4, none⟩ = some (.int .u16 c.i) ∧ w.cell? ⟨b, off + j * 4 + 1, none⟩ = some (.int .u16 c.s) ∧ w.cell? ⟨b, off + j * 4 + 2, none⟩ = some (.int .u16 c.m) ∧ w.cell? ⟨b, off + j * 4 + 3, none⟩ = some (.int .u16 c.k)
/-- The k-th name. -/
def nameK (b k : Nat) : ByteArray := (⟨#[65, 66, 67, 68, 69, 70, 71, 72, 73, 74]⟩ : ByteArray).extract k (k + 1) ++ (⟨#[120, 120, 120, 120, 120, 120, 120, 120, 120, 120, 120, 120, 120, 120, 120, 120, 120, 120, 120, 120]⟩ : ByteArray).extract 0 (b * (k + 1) % 20)
def namesK (b n : Nat) : List ByteArray := (List.range n).map (nameK b)
theorem namesK_length (b n : Nat) : (namesK b n).length = n := by simp [namesK]
theorem namesK_succ (b k : Nat) : namesK b (k + 1) = namesK b k ++ [nameK b k] := by simp [namesK, List.range_succ]
theorem namesK_rev (b k : Nat) : (namesK b (k + 1)).reverse = nameK b k :: (namesK b k).reverse := by simp [namesK_succ]

/-- What a round has to go by. -/
structure RIn (A : Nat) (a0 : Option Addr) (cs : List C4) (w : World) : Prop where
  quads : QuadsAt a0 cs w
  bnd : ∀ c ∈ cs, (0 ≤ c.i ∧ c.i ≤ 65535) ∧ (0 ≤ c.s ∧ c.s ≤ 65535) ∧ (0 ≤ c.m ∧ c.m ≤ 65535) ∧ (0 ≤ c.k ∧ c.k ≤ 65535)
  size : A = w.heap.size
theorem RIn.at {A : Nat} {a0 : Option Addr} {cs : List C4} {w wr : World} (h : RIn A a0 cs w) (hb : Below A w wr) (j : Nat) (c : C4) (hj : cs[j]? = some c) : ∃ b off, a0 = some ⟨b, off, none⟩ ∧ b < A ∧
    wr.cell? ⟨b, off + j * 4, none⟩ = some (.int .u16 c.i) ∧ wr.cell? ⟨b, off + j * 4 + 1, none⟩ = some (.int .u16 c.s) ∧ wr.cell? ⟨b, off + j * 4 + 2, none⟩ = some (.int .u16 c.m) ∧ wr.cell? ⟨b, off + j * 4 + 3, none⟩ = some (.int .u16 c.k) := by
  rcases h.quads with e | ⟨b, off, e, hl, hc⟩
  · rw [e] at hj; simp at hj
  · obtain ⟨h0, h1, h2, h3⟩ := hc j c hj
    have hl2 : b < A := by rw [h.size]; exact hl
    exact ⟨b, off, e, hl2, (hb.cell (p := ⟨b, _, none⟩) hl2).trans h0, (hb.cell (p := ⟨b, _, none⟩) hl2).trans h1, (hb.cell (p := ⟨b, _, none⟩) hl2).trans h2, (hb.cell (p := ⟨b, _, none⟩) hl2).trans h3⟩

/-- The cost that a round lays. -/
structure C13 (X : Nat) (c : C4) (w : World) : Prop where
  c0 : w.cell? ⟨X, 0, none⟩ = some (.int .i64 c.i)
  c1 : w.cell? ⟨X, 1, none⟩ = some (.int .i64 c.s)
  c2 : w.cell? ⟨X, 2, none⟩ = some (.int .i64 c.m)
  c3 : w.cell? ⟨X, 3, none⟩ = some (.int .i64 c.k)
  lt : X < w.heap.size
theorem C13.next {X : Nat} {c : C4} {w w' : World} (h : C13 X c w) (hb : Below w.heap.size w w') : C13 X c w' :=
  ⟨(hb.cell (p := ⟨X, 0, none⟩) h.lt).trans h.c0, (hb.cell (p := ⟨X, 1, none⟩) h.lt).trans h.c1, (hb.cell (p := ⟨X, 2, none⟩) h.lt).trans h.c2, (hb.cell (p := ⟨X, 3, none⟩) h.lt).trans h.c3, Nat.lt_of_lt_of_le h.lt hb.size⟩
theorem Tryd.infoCost : (Tryd.prog.info? 26).map (fun i => (i.zero, i.size, i.bytes)) = some (some (.agg #[.int .i64 0, .int .i64 0, .int .i64 0, .int .i64 0]), 4, 32) := by kernel_rfl
/-- What a round keeps between its steps. -/
structure RSt (A X : Nat) (c : C4) (v7 v8 v9 v10 : Value) (l7 l8 : List ByteArray) (l9 l10 : List C4) (w wr : World) : Prop where
  rep : RepSt A v7 v8 v9 v10 l7 l8 l9 l10 w wr
  cost : C13 X c wr
  x7 : some X ≠ v7.ownBlock
  x8 : some X ≠ v8.ownBlock
  x9 : some X ≠ v9.ownBlock
  x10 : some X ≠ v10.ownBlock
theorem RSt.next {A X : Nat} {c : C4} {v7 v8 v9 v10 : Value} {l7 l8 : List ByteArray} {l9 l10 : List C4} {w wr w2 : World} (h : RSt A X c v7 v8 v9 v10 l7 l8 l9 l10 w wr) (hb : Below wr.heap.size wr w2) : RSt A X c v7 v8 v9 v10 l7 l8 l9 l10 w w2 := ⟨h.rep.next hb, h.cost.next hb, h.x7, h.x8, h.x9, h.x10⟩
theorem not_at {v : Value} {X A n : Nat} {e : TypeId} {s : Nat} {xs : List Value} {w : World} (h : w.ownsRow A e s v n xs) (hX : w.heap.size ≤ X) : some X ≠ v.ownBlock := by
  intro e2
  have := own_lt h X e2.symm
  omega
theorem RSt.make {A X : Nat} {c : C4} {v7 v8 v9 v10 : Value} {l7 l8 : List ByteArray} {l9 l10 : List C4} {w w1 wr : World} (h0 : RepSt A v7 v8 v9 v10 l7 l8 l9 l10 w w1) (hX : w1.heap.size = X) (h : RepSt A v7 v8 v9 v10 l7 l8 l9 l10 w wr) (hc : C13 X c wr) : RSt A X c v7 v8 v9 v10 l7 l8 l9 l10 w wr :=
  ⟨h, hc, not_at h0.o7 (Nat.le_of_eq hX), not_at h0.o8 (Nat.le_of_eq hX), not_at h0.o9 (Nat.le_of_eq hX), not_at h0.o10 (Nat.le_of_eq hX)⟩
theorem C13.grown {X : Nat} {c : C4} {w w' : World} {row : Option Nat} (h : C13 X c w) (hg : w.grownBy w' row) (hne : some X ≠ row) : C13 X c w' :=
  ⟨hg.cell h.c0 hne, hg.cell h.c1 hne, hg.cell h.c2 hne, hg.cell h.c3 hne, Nat.lt_of_lt_of_le h.lt hg.size⟩
theorem not_after {X H : Nat} {v u : Value} (hX : X < H) (hu : some X ≠ u.ownBlock) (hor : v.ownBlock = u.ownBlock ∨ v.ownBlock = some H) : some X ≠ v.ownBlock := by
  rcases hor with e | e
  · rw [e]; exact hu
  · rw [e]; intro e2; simp only [Option.some.injEq] at e2; omega
theorem RSt.push7 {A X : Nat} {c : C4} {v7 v8 v9 v10 v' : Value} {l7 l8 : List ByteArray} {l9 l10 : List C4} {w wr w3 : World} {x : ByteArray} {n : Nat} (h : RSt A X c v7 v8 v9 v10 l7 l8 l9 l10 w wr) (hn : n = l7.length + 1)
    (hown : w3.ownsRow A 9 1 v' n (l7.map Value.string ++ [.string x])) (hg : wr.grownBy w3 v7.ownBlock) (hor : v'.ownBlock = v7.ownBlock ∨ v'.ownBlock = some wr.heap.size) : RSt A X c v' v8 v9 v10 (l7 ++ [x]) l8 l9 l10 w w3 :=
  ⟨h.rep.push7 hn hown hg hor, h.cost.grown hg h.x7, not_after h.cost.lt h.x7 hor, h.x8, h.x9, h.x10⟩
theorem RSt.push9 {A X : Nat} {c : C4} {v7 v8 v9 v10 v' : Value} {l7 l8 : List ByteArray} {l9 l10 : List C4} {w wr w3 : World} {x : C4} {n : Nat} (h : RSt A X c v7 v8 v9 v10 l7 l8 l9 l10 w wr) (hn : n = l9.length + 1)
    (hown : w3.ownsRow A 26 4 v' n (cellsC l9 ++ [.int .i64 x.i, .int .i64 x.s, .int .i64 x.m, .int .i64 x.k])) (hg : wr.grownBy w3 v9.ownBlock) (hor : v'.ownBlock = v9.ownBlock ∨ v'.ownBlock = some wr.heap.size) : RSt A X c v7 v8 v' v10 l7 l8 (l9 ++ [x]) l10 w w3 :=
  ⟨h.rep.push9 hn hown hg hor, h.cost.grown hg h.x9, h.x7, h.x8, not_after h.cost.lt h.x9 hor, h.x10⟩
theorem lit_below {v' : Value} {w1 w3 : World} {o : Obj} (hg : (w1.alloc o).grownBy w3 (some w1.heap.size)) (hor : v'.ownBlock = some w1.heap.size ∨ v'.ownBlock = some (w1.alloc o).heap.size) : Below w1.heap.size w1 w3 ∧ ∃ H, v'.ownBlock = some H ∧ w1.heap.size ≤ H := by
  refine ⟨((Below.refl _ w1).alloc (Nat.le_refl _) o).grown hg (by simp) (fun k hk => by simp only [Option.some.injEq] at hk; omega), ?_⟩
  rcases hor with e | e
  · exact ⟨_, e, Nat.le_refl _⟩
  · exact ⟨_, e, by simp⟩
theorem RSt.set8 {A X : Nat} {c : C4} {v7 v8 v9 v10 v' : Value} {l7 l8 l' : List ByteArray} {l9 l10 : List C4} {w wr w3 : World} {o : Obj} {xs : List Value} {n : Nat} (h : RSt A X c v7 v8 v9 v10 l7 l8 l9 l10 w wr) (hn : n = l'.length) (hxs : xs = l'.map Value.string)
    (hown : w3.ownsRow A 9 1 v' n xs) (hg : (wr.alloc o).grownBy w3 (some wr.heap.size)) (hor : v'.ownBlock = some wr.heap.size ∨ v'.ownBlock = some (wr.alloc o).heap.size) : RSt A X c v7 v' v9 v10 l7 l' l9 l10 w w3 := by
  obtain ⟨hb, H, e, hH⟩ := lit_below hg hor
  have hlt := h.cost.lt
  exact ⟨h.rep.set8 hn hxs hown hb e hH, h.cost.next hb, h.x7, by rw [e]; intro e2; simp only [Option.some.injEq] at e2; omega, h.x9, h.x10⟩
theorem RSt.set10 {A X : Nat} {c : C4} {v7 v8 v9 v10 v' : Value} {l7 l8 : List ByteArray} {l9 l10 l' : List C4} {w wr w3 : World} {o : Obj} {xs : List Value} {n : Nat} (h : RSt A X c v7 v8 v9 v10 l7 l8 l9 l10 w wr) (hn : n = l'.length) (hxs : xs = cellsC l')
    (hown : w3.ownsRow A 26 4 v' n xs) (hg : (wr.alloc o).grownBy w3 (some wr.heap.size)) (hor : v'.ownBlock = some wr.heap.size ∨ v'.ownBlock = some (wr.alloc o).heap.size) : RSt A X c v7 v8 v9 v' l7 l8 l9 l' w w3 := by
  obtain ⟨hb, H, e, hH⟩ := lit_below hg hor
  have hlt := h.cost.lt
  exact ⟨h.rep.set10 hn hxs hown hb e hH, h.cost.next hb, h.x7, h.x8, h.x9, by rw [e]; intro e2; simp only [Option.some.injEq] at e2; omega⟩
theorem own_news {w : World} {A n cap g size : Nat} {e : TypeId} {xs : List Value} (h : w.ownsRow A e size (.slice (some ⟨g, 0, none⟩) n cap) n xs) : ∀ j u, xs[j]? = some u → w.cell? ((⟨g, 0, none⟩ : Addr).add j) = some u := by
  intro j u hj
  have hl := h.1
  have hlt := (List.getElem?_eq_some_iff.1 hj).1
  have := h.cellAt j (by omega)
  rw [hj] at this
  have e : (⟨g, 0, none⟩ : Addr).add j = ⟨g, j, none⟩ := by simp only [Addr.add]; split <;> simp_all
  rw [e]
  exact this
theorem cells4_new (w : World) (a b c d : Value) (t : TypeId) : ∀ j u, [a, b, c, d][j]? = some u → (w.alloc (.cells #[a, b, c, d] t)).cell? ((⟨w.heap.size, 0, none⟩ : Addr).add j) = some u := by
  intro j u hj
  match j, hj with
  | 0, hj => simp at hj; subst hj; simp [Addr.add]
  | 1, hj => simp at hj; subst hj; simp [Addr.add]
  | 2, hj => simp at hj; subst hj; simp [Addr.add]
  | 3, hj => simp at hj; subst hj; simp [Addr.add]
theorem own_slice {w : World} {A n size : Nat} {e : TypeId} {v : Value} {xs : List Value} (h : w.ownsRow A e size v n xs) (hs : v.ownBlock ≠ none) : ∃ g cap, v = .slice (some ⟨g, 0, none⟩) n cap := by
  rcases h.2 with ⟨e3, _⟩ | ⟨g, cap, cur, e3, _⟩
  · rw [e3] at hs; exact absurd rfl hs
  · exact ⟨g, cap, e3⟩
theorem ones_str (l : List ByteArray) : ∀ u ∈ l.map Value.string, u.oneCell' = true := by
  intro u hu
  obtain ⟨x, -, rfl⟩ := List.mem_map.1 hu
  rfl
theorem ones_cost (l : List C4) : ∀ u ∈ cellsC l, u.oneCell' = true := by
  intro u hu
  obtain ⟨c, -, hc⟩ := List.mem_flatMap.1 hu
  simp only [List.mem_cons, List.not_mem_nil, or_false] at hc
  rcases hc with rfl | rfl | rfl | rfl <;> rfl
theorem take_snoc {cs : List C4} {k : Nat} {c : C4} (h : cs[k]? = some c) : cs.take (k + 1) = cs.take k ++ [c] := by
  obtain ⟨hl, rfl⟩ := List.getElem?_eq_some_iff.1 h
  simp
theorem wrap_big (x : Int) (h0 : 0 ≤ x) (h1 : x ≤ 10000000) : wrap64 x = x := by unfold wrap64; omega
theorem sum_snoc (cs : List C4) (c : C4) : sumI C4.k (cs ++ [c]) = sumI C4.k cs + c.k := by simp [sumI]
theorem C13.new (w : World) (c : C4) (t : TypeId) : C13 w.heap.size c (w.alloc (.cells #[.int .i64 c.i, .int .i64 c.s, .int .i64 c.m, .int .i64 c.k] t)).drew :=
  ⟨by simp, by simp, by simp, by simp, by simp⟩
theorem RepSt.start (w w2 : World) (he : Env w) (hb : Below w.heap.size w w2) : RepSt w.heap.size (.slice (some ⟨w2.heap.size, 0, none⟩) 0 0) (.slice (some ⟨w2.heap.size + 1, 0, none⟩) 0 0) (.slice (some ⟨w2.heap.size + 1 + 1, 0, none⟩) 0 0) (.slice (some ⟨w2.heap.size + 1 + 1 + 1, 0, none⟩) 0 0) [] [] [] [] w
    ((((w2.alloc (.cells #[] 9)).alloc (.cells #[] 9)).alloc (.cells #[] 26)).alloc (.cells #[] 26)) := by
  have hs := hb.size
  obtain ⟨x1, h1⟩ : ∃ x, w2.alloc (.cells #[] 9) = x := ⟨_, rfl⟩
  have e1 : x1.heap.size = w2.heap.size + 1 := by rw [← h1]; simp
  obtain ⟨x2, h2⟩ : ∃ x, x1.alloc (.cells #[] 9) = x := ⟨_, rfl⟩
  have e2 : x2.heap.size = w2.heap.size + 1 + 1 := by rw [← h2]; simp [e1]
  obtain ⟨x3, h3⟩ : ∃ x, x2.alloc (.cells #[] 26) = x := ⟨_, rfl⟩
  have e3 : x3.heap.size = w2.heap.size + 1 + 1 + 1 := by rw [← h3]; simp [e2]
  have o7 : x1.ownsRow w.heap.size 9 1 (.slice (some ⟨w2.heap.size, 0, none⟩) 0 0) 0 [] := by rw [← h1]; exact World.ownsRow_made w2 #[] 0 hs (Nat.zero_le _) rfl
  have o8 : x2.ownsRow w.heap.size 9 1 (.slice (some ⟨w2.heap.size + 1, 0, none⟩) 0 0) 0 [] := by rw [← h2, ← e1]; exact World.ownsRow_made x1 #[] 0 (by omega) (Nat.zero_le _) rfl
  have o9 : x3.ownsRow w.heap.size 26 4 (.slice (some ⟨w2.heap.size + 1 + 1, 0, none⟩) 0 0) 0 [] := by rw [← h3, ← e2]; exact World.ownsRow_made x2 #[] 0 (by omega) (Nat.zero_le _) rfl
  have o10 : (x3.alloc (.cells #[] 26)).ownsRow w.heap.size 26 4 (.slice (some ⟨w2.heap.size + 1 + 1 + 1, 0, none⟩) 0 0) 0 [] := by rw [← e3]; exact World.ownsRow_made x3 #[] 0 (by omega) (Nat.zero_le _) rfl
  have b1 : Below x1.heap.size x1 x2 := by rw [← h2]; exact (Below.refl _ x1).alloc (Nat.le_refl _) _
  have b2 : Below x2.heap.size x2 x3 := by rw [← h3]; exact (Below.refl _ x2).alloc (Nat.le_refl _) _
  have b3 : Below x3.heap.size x3 (x3.alloc (.cells #[] 26)) := (Below.refl _ x3).alloc (Nat.le_refl _) _
  have b0 : Below w2.heap.size w2 x1 := by rw [← h1]; exact (Below.refl _ w2).alloc (Nat.le_refl _) _
  rw [h1, h2, h3]
  refine ⟨own_below (own_below (own_below o7 b1) b2) b3, own_below (own_below o8 b2) b3, own_below o9 b3, o10, ?_, ?_, ?_, ?_, ?_, ?_, ?_, he, rfl⟩
  · exact fun e => by cases e
  · exact fun e => by cases e
  · exact fun e => by cases e
  · exact fun e => by cases e
  · intro e; simp only [Value.ownBlock, Option.some.injEq] at e; omega
  · intro e; simp only [Value.ownBlock, Option.some.injEq] at e; omega
  · exact (((hb.trans (b0.mono hs)).trans (b1.mono (by omega))).trans (b2.mono (by omega))).trans (b3.mono (by omega))

theorem fieldM (a b c d : Int) (w : World) : (Instr.field 26 (.agg #[.int .i64 a, .int .i64 b, .int .i64 c, .int .i64 d]) 3).run Tryd.prog w = .ok (.int .i64 d) w := by kernel_rfl
theorem const_word (l : List UInt8) (a b : Nat) (h : ∀ c ∈ l, 33 ≤ c.toNat ∧ c.toNat ≤ 126) : ∀ c ∈ ((⟨l.toArray⟩ : ByteArray).extract a b).data.toList, 33 ≤ c.toNat ∧ c.toNat ≤ 126 := by
  intro c hc
  rw [Lib.extract_data] at hc
  exact h c (List.mem_of_mem_drop (List.mem_of_mem_take hc))
theorem nameK_in (B k : Nat) (hk : k < 9) : 1 ≤ (nameK B k).size ∧ (nameK B k).size ≤ 20 ∧ Word (nameK B k) := by
  have hsz : (nameK B k).size = (min (k + 1) 10 - k) + (min (B * (k + 1) % 20) 20) := by
    unfold nameK
    rw [ByteArray.size_append, ByteArray.size_extract, ByteArray.size_extract]
    simp [ByteArray.size]
  refine ⟨by omega, by omega, ?_⟩
  intro c hc
  unfold nameK at hc
  rw [ByteArray.data_append, Array.toList_append] at hc
  rcases List.mem_append.1 hc with hc | hc
  · exact const_word [65, 66, 67, 68, 69, 70, 71, 72, 73, 74] _ _ (by decide) c hc
  · exact const_word [120, 120, 120, 120, 120, 120, 120, 120, 120, 120, 120, 120, 120, 120, 120, 120, 120, 120, 120, 120] _ _ (by decide) c hc
theorem repIn_names {B n : Nat} {cs : List C4} (hn : n ≤ 9) (hnl : n ≤ cs.length) (hc : ∀ c ∈ cs, (0 ≤ c.i ∧ c.i ≤ 65535) ∧ (0 ≤ c.s ∧ c.s ≤ 65535) ∧ (0 ≤ c.m ∧ c.m ≤ 65535) ∧ (0 ≤ c.k ∧ c.k ≤ 65535)) : RepIn (namesK B n) (cs.take n) := by
  refine ⟨by rw [namesK_length, List.length_take]; omega, by rw [List.length_take]; omega, ?_, fun c h => hc c (List.mem_of_mem_take h)⟩
  intro x hx
  obtain ⟨k, hk, rfl⟩ := List.mem_map.1 hx
  exact nameK_in B k (by have := List.mem_range.1 hk; omega)

/-- Lines that lie in memory. -/
structure LineSt (g : Nat) (f : Nat → ByteArray) (m : Nat) (w : World) : Prop where
  c : ∀ i, i < m → w.cell? ⟨g, i, none⟩ = some (.string (f i))
  lt : g < w.heap.size
theorem LineSt.next {g : Nat} {f : Nat → ByteArray} {m : Nat} {w w' : World} (h : LineSt g f m w) (hb : Below w.heap.size w w') : LineSt g f m w' :=
  ⟨fun i hi => (hb.cell (p := ⟨g, i, none⟩) h.lt).trans (h.c i hi), Nat.lt_of_lt_of_le h.lt hb.size⟩
/-- A report that lies in memory. -/
structure ToldSt (P : Nat) (s : ByteArray) (w : World) : Prop where
  c0 : w.cell? ⟨P, 0, none⟩ = some (.string s)
  c1 : w.cell? ⟨P, 1, none⟩ = some (.int .i64 0)
  lt : P < w.heap.size
theorem ToldSt.next {P : Nat} {s : ByteArray} {w w' : World} (h : ToldSt P s w) (hb : Below w.heap.size w w') : ToldSt P s w' :=
  ⟨(hb.cell (p := ⟨P, 0, none⟩) h.lt).trans h.c0, (hb.cell (p := ⟨P, 1, none⟩) h.lt).trans h.c1, Nat.lt_of_lt_of_le h.lt hb.size⟩

/-- What stands when both reports are told. -/
structure TwoSt (A P Q k : Nat) (g7 g8 g9 g10 c7 c8 c9 c10 : Nat) (ns : List ByteArray) (cn : List C4) (s1 s2 : ByteArray) (w wr : World) : Prop where
  rep : RepSt A (.slice (some ⟨g7, 0, none⟩) k c7) (.slice (some ⟨g8, 0, none⟩) k c8) (.slice (some ⟨g9, 0, none⟩) k c9) (.slice (some ⟨g10, 0, none⟩) k c10) ns ns.reverse cn cn.reverse w wr
  t1 : ToldSt P s1 wr
  t2 : ToldSt Q s2 wr
theorem TwoSt.next {A P Q k : Nat} {g7 g8 g9 g10 c7 c8 c9 c10 : Nat} {ns : List ByteArray} {cn : List C4} {s1 s2 : ByteArray} {w wr w2 : World} (h : TwoSt A P Q k g7 g8 g9 g10 c7 c8 c9 c10 ns cn s1 s2 w wr) (hb : Below wr.heap.size wr w2) : TwoSt A P Q k g7 g8 g9 g10 c7 c8 c9 c10 ns cn s1 s2 w w2 :=
  ⟨h.rep.next hb, h.t1.next hb, h.t2.next hb⟩
theorem TwoSt.start {A k : Nat} {g7 g8 g9 g10 c7 c8 c9 c10 : Nat} {ns : List ByteArray} {cn : List C4} {s1 s2 : ByteArray} {w wr : World} (h : RepSt A (.slice (some ⟨g7, 0, none⟩) k c7) (.slice (some ⟨g8, 0, none⟩) k c8) (.slice (some ⟨g9, 0, none⟩) k c9) (.slice (some ⟨g10, 0, none⟩) k c10) ns ns.reverse cn cn.reverse w wr) (t : TypeId) :
    TwoSt A wr.heap.size (wr.heap.size + 1) k g7 g8 g9 g10 c7 c8 c9 c10 ns cn s1 s2 w ((wr.alloc (.cells #[.string s1, .int .i64 0] t)).alloc (.cells #[.string s2, .int .i64 0] t)) := by
  have e1 : (wr.alloc (.cells #[.string s1, .int .i64 0] t)).heap.size = wr.heap.size + 1 := by simp
  have b1 : Below wr.heap.size wr (wr.alloc (.cells #[.string s1, .int .i64 0] t)) := (Below.refl _ wr).alloc (Nat.le_refl _) _
  obtain ⟨x1, h1⟩ : ∃ x, wr.alloc (.cells #[.string s1, .int .i64 0] t) = x := ⟨_, rfl⟩
  have a1 : ToldSt wr.heap.size s1 x1 := by rw [← h1]; exact ⟨by simp, by simp, by simp⟩
  rw [h1] at e1 b1 ⊢
  have b2 : Below x1.heap.size x1 (x1.alloc (.cells #[.string s2, .int .i64 0] t)) := (Below.refl _ x1).alloc (Nat.le_refl _) _
  have a2 : ToldSt (wr.heap.size + 1) s2 (x1.alloc (.cells #[.string s2, .int .i64 0] t)) := by rw [← e1]; exact ⟨by simp, by simp, by simp⟩
  exact ⟨(h.next b1).next b2, a1.next b2, a2⟩
/-- What stands when the lines are read. -/
structure RoundSt (A P Q k : Nat) (g7 g8 g9 g10 c7 c8 c9 c10 gA gB : Nat) (ns : List ByteArray) (cn : List C4) (s1 s2 : ByteArray) (w wr : World) : Prop where
  two : TwoSt A P Q k g7 g8 g9 g10 c7 c8 c9 c10 ns cn s1 s2 w wr
  la : LineSt gA (lineAt ns cn) (k + 2) wr
  lb : LineSt gB (lineAt ns.reverse cn.reverse) (k + 2) wr
  rin : RepIn ns cn
  len : cn.length = k
theorem RoundSt.next {A P Q k : Nat} {g7 g8 g9 g10 c7 c8 c9 c10 gA gB : Nat} {ns : List ByteArray} {cn : List C4} {s1 s2 : ByteArray} {w wr w2 : World} (h : RoundSt A P Q k g7 g8 g9 g10 c7 c8 c9 c10 gA gB ns cn s1 s2 w wr) (hb : Below wr.heap.size wr w2) : RoundSt A P Q k g7 g8 g9 g10 c7 c8 c9 c10 gA gB ns cn s1 s2 w w2 :=
  ⟨h.two.next hb, h.la.next hb, h.lb.next hb, h.rin, h.len⟩
theorem RoundSt.ends {A P Q k : Nat} {g7 g8 g9 g10 c7 c8 c9 c10 gA gB : Nat} {ns : List ByteArray} {cn : List C4} {s1 s2 : ByteArray} {w wr : World} {L0 LZ : ByteArray} (h : RoundSt A P Q k g7 g8 g9 g10 c7 c8 c9 c10 gA gB ns cn s1 s2 w wr) (h0 : lineAt ns cn 0 = L0) (hZ : lineAt ns cn (k + 1) = LZ) :
    wr.cell? ⟨P, 1, none⟩ = some (.int .i64 0) ∧ wr.cell? ⟨Q, 1, none⟩ = some (.int .i64 0) ∧ wr.cell? ⟨gA, 0, none⟩ = some (.string L0) ∧ wr.cell? ⟨gB, 0, none⟩ = some (.string L0) ∧ wr.cell? ⟨gA, k + 1, none⟩ = some (.string LZ) ∧ wr.cell? ⟨gB, k + 1, none⟩ = some (.string LZ) := by
  have r0 := h.lb.c 0 (by omega)
  have rZ := h.lb.c (k + 1) (by omega)
  rw [lineAt_head h.rin, h0] at r0
  have e := lineAt_last h.rin
  rw [h.len, hZ] at e
  rw [e] at rZ
  have l0 := h.la.c 0 (by omega)
  have lZ := h.la.c (k + 1) (by omega)
  rw [h0] at l0
  rw [hZ] at lZ
  exact ⟨h.two.t1.c1, h.two.t2.c1, l0, r0, lZ, rZ⟩
theorem lastC {ns : List ByteArray} {cn : List C4} (h : RepIn ns cn) (i : Nat) (h1 : 1 ≤ i) (h2 : i < cn.length + 2) : ∃ D : ByteArray, D.size ≤ 400 ∧
    (∀ w, Calls Tryd.prog 16 #[.string (lineAt ns cn i)] w fun e w' => e = .returned (.string D) ∧ w = w') ∧
    (∀ w, Env w → Calls Tryd.prog 13 #[.string ((⟨#[105, 115, 115, 117, 101, 115, 32, 48, 44, 32, 115, 99, 97, 108, 97, 114, 115, 32, 48, 44, 32, 109, 111, 118, 101, 115, 32, 48, 44, 32, 109, 97, 115, 107, 101, 100, 32]⟩ : ByteArray) ++ D)] w fun e w' => e = .returned (.agg #[.int .i64 0, .int .i64 0, .int .i64 0, .int .i64 (lastK cn i), .int .i64 0]) ∧ Below w.heap.size w w') := by
  obtain ⟨⟨k0, k1⟩, p, hp0, hp1, hp2, hp3, hp4⟩ := lineAt_tail h i h1 h2
  have hle := lineAt_size_le h i h2
  have hD : ((⟨(Lib.itoa (lastK cn i)).toArray⟩ : ByteArray)).size ≤ 400 := by
    rw [← hp4, ByteArray.size_extract]
    omega
  refine ⟨⟨(Lib.itoa (lastK cn i)).toArray⟩, hD, fun w => ?_, fun w he => ?_⟩
  · have := last_at (lineAt ns cn i) p hp0 hp1 (by omega) hp3 hp2 w
    rw [hp4] at this
    exact this
  · have hps := parse_last (lastK cn i) k0 k1
    have hsz : (preK ++ (⟨(Lib.itoa (lastK cn i)).toArray⟩ : ByteArray)).size < 4294967281 := by
      have e : preK.size = 37 := rfl
      rw [ByteArray.size_append, e]
      omega
    have := parsed_any (preK ++ (⟨(Lib.itoa (lastK cn i)).toArray⟩ : ByteArray)) w hsz he
    rw [hps] at this
    exact this
/-- What a round over the lines finds. -/
structure MidSt (P Q k : Nat) (i j d : Nat) (A g7 g8 g9 g10 c7 c8 c9 c10 gA gB : Nat) (ns : List ByteArray) (cn : List C4) (s1 s2 : ByteArray) (w : World) (L0 Li nm D : ByteArray) (κ : Int) : Prop where
  hj : j + 1 = i
  hd : d + i = k + 1
  size : Li.size = L0.size
  lt : nm.size < Li.size
  le : Li.size ≤ 400
  head : Li.extract 0 (nm.size + 1) = nm ++ (⟨#[32]⟩ : ByteArray)
  small : D.size ≤ 400
  last : ∀ w, Calls Tryd.prog 16 #[.string Li] w fun e w' => e = .returned (.string D) ∧ w = w'
  parsed : ∀ w, Env w → Calls Tryd.prog 13 #[.string ((⟨#[105, 115, 115, 117, 101, 115, 32, 48, 44, 32, 115, 99, 97, 108, 97, 114, 115, 32, 48, 44, 32, 109, 111, 118, 101, 115, 32, 48, 44, 32, 109, 97, 115, 107, 101, 100, 32]⟩ : ByteArray) ++ D)] w fun e w' => e = .returned (.agg #[.int .i64 0, .int .i64 0, .int .i64 0, .int .i64 κ, .int .i64 0]) ∧ Below w.heap.size w w'
  cells : ∀ wr, RoundSt A P Q k g7 g8 g9 g10 c7 c8 c9 c10 gA gB ns cn s1 s2 w wr → wr.cell? ⟨gA, i, none⟩ = some (.string Li) ∧ wr.cell? ⟨gA, 0, none⟩ = some (.string L0) ∧ wr.cell? ⟨gB, d, none⟩ = some (.string Li) ∧ wr.cell? ⟨g7, j, none⟩ = some (.string nm) ∧ wr.cell? ⟨g9, j * 4 + 3, none⟩ = some (.int .i64 κ)
theorem RoundSt.mid {A P Q k : Nat} {g7 g8 g9 g10 c7 c8 c9 c10 gA gB : Nat} {ns : List ByteArray} {cn : List C4} {s1 s2 : ByteArray} {w : World} {L0 : ByteArray} (hR : RepIn ns cn) (hk : cn.length = k) (hN : ns.length = k) (h0 : lineAt ns cn 0 = L0) (i : Nat) (h1 : 1 ≤ i) (h2 : i ≤ k) :
    ∃ j d Li nm D κ, MidSt P Q k i j d A g7 g8 g9 g10 c7 c8 c9 c10 gA gB ns cn s1 s2 w L0 Li nm D κ := by
  obtain ⟨D, hD, hl, hp⟩ := lastC hR i h1 (by omega)
  obtain ⟨j, rfl⟩ : ∃ j, i = j + 1 := ⟨i - 1, by omega⟩
  obtain ⟨d, hd⟩ : ∃ d, d + (j + 1) = k + 1 := ⟨k - j, by omega⟩
  obtain ⟨n1, n2⟩ := lineAt_name (ns := ns) (cs := cn) (j + 1) h1 (by omega)
  rw [Nat.add_sub_cancel] at n1 n2
  refine ⟨j, d, lineAt ns cn (j + 1), ns.getD j ByteArray.empty, D, lastK cn (j + 1), rfl, hd, by rw [lineAt_size hR _ (by omega), h0], n2, lineAt_size_le hR _ (by omega), n1, hD, hl, hp, fun wr h => ?_⟩
  have r := h.lb.c d (by omega)
  have e := lineAt_reverse hR (j + 1) h1 (by omega)
  rw [show cn.length + 1 - (j + 1) = d by omega] at e
  rw [e] at r
  have l0 := h.la.c 0 (by omega)
  rw [h0] at l0
  refine ⟨h.la.c (j + 1) (by omega), l0, r, ?_, ?_⟩
  · have o7 := h.two.rep.o7
    rw [hN] at o7
    rw [o7.cellAt j (by omega), List.getElem?_map, List.getD_eq_getElem?_getD, List.getElem?_eq_getElem (by omega)]
    rfl
  · have o9 := h.two.rep.o9
    rw [hk] at o9
    have hj : cn[j]? = some (cn.getD j C4.zero) := by rw [List.getD_eq_getElem?_getD, List.getElem?_eq_getElem (by omega)]; rfl
    rw [o9.cellAt (j * 4 + 3) (by omega), (cellsC_at cn j _ hj).2.2.2]
    unfold lastK
    rw [if_pos (by omega), Nat.add_sub_cancel]
theorem strs_own {w : World} {A g n cap : Nat} {ns : List ByteArray} (h : w.ownsRow A 9 1 (.slice (some ⟨g, 0, none⟩) n cap) n (ns.map Value.string)) : StrsAt (some ⟨g, 0, none⟩) ns w := by
  refine .inr ⟨g, 0, rfl, own_lt h g rfl, fun i s hi => ?_⟩
  have hl := h.1
  simp only [List.length_map, Nat.mul_one] at hl
  have hlt := (List.getElem?_eq_some_iff.1 hi).1
  have := h.cellAt i (by omega)
  rw [List.getElem?_map, hi] at this
  rw [Nat.zero_add]
  exact this
theorem costs_own {w : World} {A g n cap : Nat} {cs : List C4} (h : w.ownsRow A 26 4 (.slice (some ⟨g, 0, none⟩) n cap) n (cellsC cs)) : CostsAt (some ⟨g, 0, none⟩) cs w := by
  refine .inr ⟨g, 0, rfl, own_lt h g rfl, fun j c hj => ?_⟩
  have hl := h.1
  rw [cellsC_length] at hl
  have hlt := (List.getElem?_eq_some_iff.1 hj).1
  obtain ⟨h0, h1, h2, h3⟩ := cellsC_at cs j c hj
  rw [Nat.zero_add]
  exact ⟨(h.cellAt _ (by omega)).trans h0, (h.cellAt _ (by omega)).trans h1, (h.cellAt _ (by omega)).trans h2, (h.cellAt _ (by omega)).trans h3⟩
theorem reportC {ns : List ByteArray} {cn : List C4} (hR : RepIn ns cn) {A g7 c7 g9 c9 n : Nat} (hn : ns.length = n) (hc : cn.length = n) (w : World) (he : Env w) (o7 : w.ownsRow A 9 1 (.slice (some ⟨g7, 0, none⟩) n c7) n (ns.map Value.string)) (o9 : w.ownsRow A 26 4 (.slice (some ⟨g9, 0, none⟩) n c9) n (cellsC cn)) :
    Calls Tryd.prog 14 #[.slice (some ⟨g7, 0, none⟩) n c7, .slice (some ⟨g9, 0, none⟩) n c9] w fun e w' => e = .returned (.agg #[.string (reportM ns cn).1, .int .i64 0]) ∧ Below w.heap.size w w' := by
  have hf := hR.few
  have h := lawreport_any (some ⟨g7, 0, none⟩) (some ⟨g9, 0, none⟩) c7 c9 ns cn w he (by omega) (by omega) (strs_own o7) (costs_own o9) (fun x hx => by have := (hR.name x hx).2.1; omega)
  have e2 : (reportM ns cn).2 = 0 := by rw [report_ok hR]
  rw [hn, hc, e2] at h
  exact h
theorem linesC {ns : List ByteArray} {cn : List C4} (hR : RepIn ns cn) {n : Nat} (hc : cn.length = n) (w : World) :
    Calls Tryd.prog 15 #[.string (reportM ns cn).1] w fun e w' => ∃ g cap, e = .returned (.slice (some ⟨g, 0, none⟩) (n + 2) cap) ∧ LineSt g (lineAt ns cn) (n + 2) w' ∧ Below w.heap.size w w' := by
  have hs := report_size hR
  obtain ⟨h1, h2⟩ := report_lines hR
  refine (lines_any (reportM ns cn).1 (by omega) w).mono ?_
  rintro e w' ⟨⟨v, rfl, hown⟩, hb⟩
  rw [h1, hc] at hown
  have hv : v.ownBlock ≠ none := by
    rcases hown.2 with ⟨-, e3⟩ | ⟨g, cap, cur, e3, _⟩
    · exfalso
      revert e3
      simp
    · rw [e3]; exact fun e => by cases e
  obtain ⟨g, cap, rfl⟩ := own_slice hown hv
  refine ⟨g, cap, rfl, ⟨fun i hi => ?_, own_lt hown g rfl⟩, hb⟩
  have := hown.cellAt i (by omega)
  rw [List.getElem?_map, h2 i (by omega)] at this
  exact this

set_option maxRecDepth 100000 in
set_option maxHeartbeats 40000000 in
theorem reports_any (a0 : Option Addr) (cs : List C4) (cap : Nat) (B : Nat) (hB : B ≤ 255) (w : World) (he : Env w) (hlen : cs.length ≤ maxLen) (hq : QuadsAt a0 cs w)
    (hc : ∀ c ∈ cs, (0 ≤ c.i ∧ c.i ≤ 65535) ∧ (0 ≤ c.s ∧ c.s ≤ 65535) ∧ (0 ≤ c.m ∧ c.m ≤ 65535) ∧ (0 ≤ c.k ∧ c.k ≤ 65535)) :
    Calls Tryd.prog 5 #[.slice a0 cs.length cap, .int .u8 (B : Int)] w fun e w' => e = .returned (.bool true) ∧ Below w.heap.size w w' := by
  have hl0 := hlen
  clear hl0
  obtain ⟨i0, hi, hz0, hz1, hz2⟩ := info_parts Tryd.infoStr
  obtain ⟨j0, ji, jz0, jz1, jz2⟩ := info_parts Tryd.infoCost
  have HI := Lib.hid (RIn.mk hq hc rfl : RIn w.heap.size a0 cs w)
  have HE := Lib.hid he
  clear hq hc he
  obtain ⟨n, hn⟩ : ∃ n : Nat, min (cs.length : Int) 9 = (n : Int) := ⟨min cs.length 9, by omega⟩
  have hn9 : n ≤ 9 := by omega
  have hnl : n ≤ cs.length := by omega
  go_enter Tryd.func5, Tryd.ntmps5
  go_wp2_with (go_at_call 6; refine (examples_any _ HE.out).mono ?_; rintro e w2 ⟨rfl, hb2⟩)
  go_loopw [7, 8, 9, 10, 11, 12] (fun v7 v8 v9 v10 v11 v12 wr => ∃ k : Nat, k ≤ n ∧ v12 = .int .i64 (k : Int) ∧ v11 = .int .i64 (sumI C4.k (cs.take k)) ∧ RepSt w.heap.size v7 v8 v9 v10 (namesK B k) (namesK B k).reverse (cs.take k) (cs.take k).reverse w wr) (fun _ _ _ _ _ v12 _ => n - (intOf v12).toNat)
  case atStart => exact ⟨0, Nat.zero_le _, rfl, rfl, RepSt.start w w2 HE.out hb2⟩
  case round =>
    obtain ⟨k, hk, rfl, rfl, h⟩ := hrel
    have H := Lib.hid h
    clear h
    by_cases hlt : k < n
    · as_aux_lemma =>
        obtain ⟨c, hcj⟩ : ∃ c, cs[k]? = some c := ⟨cs[k], List.getElem?_eq_getElem (by omega)⟩
        obtain ⟨b, off, rfl, hbA, q0, q1, q2, q3⟩ := HI.out.at H.out.below k c hcj
        have HC := Lib.hid hcj
        have hcm : c ∈ cs := List.mem_of_getElem? hcj
        obtain ⟨⟨ci0, ci1⟩, ⟨cs0, cs1⟩, ⟨cm0, cm1⟩, ⟨ck0, ck1⟩⟩ := HI.out.bnd c hcm
        have hkl : k < cs.length := by omega
        clear hcj hcm
        have hbw : b < wr.heap.size := Nat.lt_of_lt_of_le hbA H.out.le
        have hbw2 : b ≠ wr.heap.size := Nat.ne_of_lt hbw
        go_wp2
        obtain ⟨ci, cis, cim, cik⟩ := c
        simp only at *
        go_region
        have hbn : Below wr.heap.size wr (wr.alloc (.cells #[.int .i64 ci, .int .i64 cis, .int .i64 cim, .int .i64 cik] 26)).drew := ((Below.refl _ wr).alloc (Nat.le_refl _) _).drew
        have HR := Lib.hid (H.out.next hbn)
        have HX := Lib.hid (C13.new wr ⟨ci, cis, cim, cik⟩ 26)
        have hsz4 : (wr.alloc (.cells #[.int .i64 ci, .int .i64 cis, .int .i64 cim, .int .i64 cik] 26)).drew.heap.size = wr.heap.size + 1 := by simp
        have hTl : (cs.take k).length = k := by rw [List.length_take]; omega
        obtain ⟨g8, cap8, e8⟩ := own_slice H.out.o8 H.out.s8
        obtain ⟨g10, cap10, e10⟩ := own_slice H.out.o10 H.out.s10
        rw [List.length_reverse, namesK_length] at e8
        rw [List.length_reverse, hTl] at e10
        subst e8
        subst e10
        simp only at HX
        obtain ⟨w4, hw4⟩ : ∃ x, (wr.alloc (.cells #[.int .i64 ci, .int .i64 cis, .int .i64 cim, .int .i64 cik] 26)).drew = x := ⟨_, rfl⟩
        rw [hw4] at HR HX hsz4 ⊢
        clear hbn hw4
        obtain ⟨X, hX⟩ : ∃ X, wr.heap.size = X := ⟨_, rfl⟩
        rw [hX] at HX hsz4 hbw hbw2 ⊢
        have hwk : IntKind.i64.wrap ((k : Int) + 1) = (k : Int) + 1 := IntWalk.i64_in _ (by omega)
        obtain ⟨R, hR⟩ : ∃ R, B * (k + 1) % 20 = R := ⟨_, rfl⟩
        have hR20 : R < 20 := by omega
        have hPB : B * (k + 1) ≤ 255 * 10 := Nat.mul_le_mul hB (by omega)
        have heB : (B : Int) * ((k : Int) + 1) = ((B * (k + 1) : Nat) : Int) := by simp
        have hwB : IntKind.i64.wrap (B : Int) = (B : Int) := IntWalk.i64_in _ (by omega)
        have hwb : IntKind.i64.wrap ((B : Int) * ((k : Int) + 1)) = (B : Int) * ((k : Int) + 1) := by
          rw [heB]
          exact IntWalk.i64_in _ (by omega)
        have hwt : ((B : Int) * ((k : Int) + 1)).tmod 20 = (R : Int) := by
          rw [heB, Int.tmod_eq_emod_of_nonneg (by omega)]
          omega
        clear heB
        have hwr : IntKind.i64.wrap (R : Int) = (R : Int) := IntWalk.i64_in _ (by omega)
        have hname : nameK B k = (⟨#[65, 66, 67, 68, 69, 70, 71, 72, 73, 74]⟩ : ByteArray).extract k (k + 1) ++ (⟨#[120, 120, 120, 120, 120, 120, 120, 120, 120, 120, 120, 120, 120, 120, 120, 120, 120, 120, 120, 120]⟩ : ByteArray).extract 0 R := by rw [← hR]; rfl
        have HN := Lib.hid hname
        clear hname hR
        go_wp2
        have g1 : (0 : Int) ≤ (k : Int) + 1 := by omega
        have g2 : (k : Int) + 1 ≤ 10 := by omega
        have g3 : (k : Int) ≤ (k : Int) + 1 := by omega
        have g4 : (0 : Int) ≤ (R : Int) := by omega
        have g5 : (R : Int) ≤ 20 := by omega
        have g6 : ¬ 9223372036854775807 < min (k + 1) 10 - k + min R 20 := by omega
        apply wp_region_kept (RSt w.heap.size X ⟨ci, cis, cim, cik⟩ u7 (.slice (some ⟨g8, 0, none⟩) k cap8) u9 (.slice (some ⟨g10, 0, none⟩) k cap10) (namesK B k) (namesK B k).reverse (cs.take k) (cs.take k).reverse w) (hm := by kernel_rfl) (hB := by kernel_rfl) (hb := by kernel_rfl) (hJ := RSt.make H.out hX (HR.out.next (Below.refl _ w4).drew) (HX.out.next (Below.refl _ w4).drew))
        · go_light
          repeat (first
            | (apply keep_run
               · go_simp
               · unfold gives
                 intro w5 hw
                 go_simp
                 first
                   | exact ⟨rfl, hw⟩
                   | rfl
               intro K hK
               go_simp
               refine hK _ ?_
               clear hK K)
            | (refine keep_skip ?_ ?_
               · (go_simp; done)
               intro K hK
               go_simp
               refine hK _ ?_
               clear hK K))
          exact keep_done
        intro w5 h5
        clear g1 g2 g3 g4 g5 g6
        have H5 := Lib.hid h5
        clear h5 HR HX
        rw [← HN.out]
        clear HN hwk hwB hwb hwt hwr hR20 hPB hbw hbw2 hsz4 q0 q1 q2 q3
        go_wp2_with (first
          | (at_builtin; refine wpList_append_own_at _ rfl _ _ 41 rfl w.heap.size 9 i0 (.string ⟨#[]⟩) 1 16 Tryd.underlying41 hi hz0 hz1 hz2 rfl (by decide) u7 (namesK B k).length ((namesK B k).map Value.string) rfl (own_below H5.out.rep.o7 ((Below.refl _ w5).alloc (Nat.le_refl _) _)) ⟨w5.heap.size, 0, none⟩ 1 1 [.string (nameK B k)] rfl rfl (cell_one_new _ _ _) (by simp [Value.oneCell']) (by rw [namesK_length]; unfold maxLen; omega) (by rw [namesK_length]; omega) (Nat.le_trans H5.out.rep.le (by simp)) ?_; intro v7 w6 hown hgrow _ hor; have H6 := Lib.hid (RSt.push7 (H5.out.next ((Below.refl _ w5).alloc (Nat.le_refl _) _)) rfl hown hgrow hor); clear hown hgrow hor; have p0 := H6.out.cost.c0; have p1 := H6.out.cost.c1; have p2 := H6.out.cost.c2; have p3 := H6.out.cost.c3; simp only at p0 p1 p2 p3)
          | (at_builtin; refine wpList_append_own_at _ rfl _ _ 29 rfl w.heap.size 26 j0 (.agg #[.int .i64 0, .int .i64 0, .int .i64 0, .int .i64 0]) 4 32 Tryd.underlying29 ji jz0 jz1 jz2 rfl (by decide) u9 (cs.take k).length (cellsC (cs.take k)) rfl (own_below H6.out.rep.o9 ((Below.refl _ w6).alloc (Nat.le_refl _) _)) ⟨w6.heap.size, 0, none⟩ 1 1 [.int .i64 ci, .int .i64 cis, .int .i64 cim, .int .i64 cik] rfl rfl (cells4_new _ _ _ _ _ _) (by simp [Value.oneCell']) (by rw [hTl]; unfold maxLen; omega) (by rw [hTl]; omega) (Nat.le_trans H6.out.rep.le (by simp)) ?_; intro v9 w7 hown hgrow _ hor; have H7 := Lib.hid (RSt.push9 (x := ⟨ci, cis, cim, cik⟩) (H6.out.next ((Below.refl _ w6).alloc (Nat.le_refl _) _)) rfl hown hgrow hor); clear hown hgrow hor)
          | (at_builtin; refine wpList_append_own_at _ rfl _ _ 41 rfl w.heap.size 9 i0 (.string ⟨#[]⟩) 1 16 Tryd.underlying41 hi hz0 hz1 hz2 rfl (by decide) (.slice (some ⟨w7.heap.size, 0, none⟩) 1 1) 1 [.string (nameK B k)] rfl (World.ownsRow_lit w7 #[.string (nameK B k)] 1 H7.out.rep.le (by decide) rfl) ⟨g8, 0, none⟩ k cap8 ((namesK B k).reverse.map Value.string) rfl (by simp [namesK_length]) (own_news (n := k) (by have := own_below H7.out.rep.o8 ((Below.refl _ w7).alloc (Nat.le_refl _) (.cells #[.string (nameK B k)] 9)); rwa [List.length_reverse, namesK_length] at this)) (ones_str _) (by unfold maxLen; omega) (by omega) (Nat.le_trans H7.out.rep.le (by simp)) ?_; intro v8 w8 hown hgrow _ hor; have H8 := Lib.hid (RSt.set8 (l' := nameK B k :: (namesK B k).reverse) H7.out (by simp [namesK_length]; omega) rfl hown hgrow hor); clear hown hgrow hor; have p0 := H8.out.cost.c0; have p1 := H8.out.cost.c1; have p2 := H8.out.cost.c2; have p3 := H8.out.cost.c3; simp only at p0 p1 p2 p3)
          | (at_builtin; refine wpList_append_own_at _ rfl _ _ 29 rfl w.heap.size 26 j0 (.agg #[.int .i64 0, .int .i64 0, .int .i64 0, .int .i64 0]) 4 32 Tryd.underlying29 ji jz0 jz1 jz2 rfl (by decide) (.slice (some ⟨w8.heap.size, 0, none⟩) 1 1) 1 [.int .i64 ci, .int .i64 cis, .int .i64 cim, .int .i64 cik] rfl (World.ownsRow_lit w8 #[.int .i64 ci, .int .i64 cis, .int .i64 cim, .int .i64 cik] 1 H8.out.rep.le (by decide) rfl) ⟨g10, 0, none⟩ k cap10 (cellsC (cs.take k).reverse) rfl (by rw [cellsC_length, List.length_reverse, hTl]) (own_news (n := k) (by have := own_below H8.out.rep.o10 ((Below.refl _ w8).alloc (Nat.le_refl _) (.cells #[.int .i64 ci, .int .i64 cis, .int .i64 cim, .int .i64 cik] 26)); rwa [List.length_reverse, hTl] at this)) (ones_cost _) (by unfold maxLen; omega) (by omega) (Nat.le_trans H8.out.rep.le (by simp)) ?_; intro v10 w9 hown hgrow _ hor; have H9 := Lib.hid (RSt.set10 (l' := ⟨ci, cis, cim, cik⟩ :: (cs.take k).reverse) H8.out (by simp [hTl]; omega) rfl hown hgrow hor); clear hown hgrow hor; have p3 := H9.out.cost.c3; simp only at p3))
        go_roundw
        case rel =>
          have hs := sum_part C4.k (cs.take k) (fun c hc => (HI.out.bnd c (List.mem_of_mem_take hc)).2.2.2)
          rw [hTl] at hs
          refine ⟨k + 1, by omega, by go_num, ?_, ?_⟩
          · rw [take_snoc HC.out, sum_snoc, wrap_big _ (by omega) (by omega)]
          · have h9 := H9.out.rep
            rw [namesK_succ, take_snoc HC.out, List.reverse_append, List.reverse_append]
            exact h9
        case measure => go_light; simp [intOf]; omega
    · obtain rfl : k = n := by omega
      have hR : RepIn (namesK B k) (cs.take k) := repIn_names hn9 hnl HI.out.bnd
      have hTl : (cs.take k).length = k := by rw [List.length_take]; omega
      have hNl : (namesK B k).length = k := namesK_length B k
      obtain ⟨g7, cap7, e7⟩ := own_slice H.out.o7 H.out.s7
      obtain ⟨g8, cap8, e8⟩ := own_slice H.out.o8 H.out.s8
      obtain ⟨g9, cap9, e9⟩ := own_slice H.out.o9 H.out.s9
      obtain ⟨g10, cap10, e10⟩ := own_slice H.out.o10 H.out.s10
      rw [hNl] at e7
      rw [List.length_reverse, hNl] at e8
      rw [hTl] at e9
      rw [List.length_reverse, hTl] at e10
      subst e7
      subst e8
      subst e9
      subst e10
      obtain ⟨ns, hns⟩ : ∃ ns, namesK B k = ns := ⟨_, rfl⟩
      obtain ⟨cn, hcn⟩ : ∃ cn, cs.take k = cn := ⟨_, rfl⟩
      rw [hns] at hR H hNl
      rw [hcn] at hR H hTl
      rw [hcn]
      have C1 := Lib.hid (fun w' (h : RepSt w.heap.size (.slice (some ⟨g7, 0, none⟩) k cap7) (.slice (some ⟨g8, 0, none⟩) k cap8) (.slice (some ⟨g9, 0, none⟩) k cap9) (.slice (some ⟨g10, 0, none⟩) k cap10) ns ns.reverse cn cn.reverse w w') => reportC hR hNl hTl w' h.env (by have := h.o7; rwa [hNl] at this) (by have := h.o9; rwa [hTl] at this))
      have C2 := Lib.hid (fun w' (h : RepSt w.heap.size (.slice (some ⟨g7, 0, none⟩) k cap7) (.slice (some ⟨g8, 0, none⟩) k cap8) (.slice (some ⟨g9, 0, none⟩) k cap9) (.slice (some ⟨g10, 0, none⟩) k cap10) ns ns.reverse cn cn.reverse w w') => reportC hR.reverse (n := k) (by rw [List.length_reverse]; exact hNl) (by rw [List.length_reverse]; exact hTl) w' h.env (by have := h.o8; rwa [List.length_reverse, hNl] at this) (by have := h.o10; rwa [List.length_reverse, hTl] at this))
      have L1 := Lib.hid (fun w' => linesC hR hTl w')
      have L2 := Lib.hid (fun w' => linesC hR.reverse (n := k) (by rw [List.length_reverse]; exact hTl) w')
      obtain ⟨s1, hs1⟩ : ∃ s1, (reportM ns cn).1 = s1 := ⟨_, rfl⟩
      obtain ⟨s2, hs2⟩ : ∃ s2, (reportM ns.reverse cn.reverse).1 = s2 := ⟨_, rfl⟩
      rw [hs1] at C1 L1
      rw [hs2] at C2 L2
      have HR := Lib.hid hR
      have HNS := Lib.hid hns
      have HCN := Lib.hid hcn
      clear hR hns hcn hs1 hs2
      go_wp2_with (first
        | (go_at_call 14; (with_reducible refine (C1.out _ H.out).mono ?_); rintro e w3 ⟨rfl, hb3⟩; have H3 := Lib.hid (H.out.next hb3); clear hb3)
        | (go_at_call 14; (with_reducible refine (C2.out _ H3.out).mono ?_); rintro e w4 ⟨rfl, hb4⟩; have H4 := Lib.hid (H3.out.next hb4); clear hb4))
      have K5 := Lib.hid (TwoSt.start (s1 := s1) (s2 := s2) H4.out 47)
      obtain ⟨w5, hw5⟩ : ∃ w5, (w4.alloc (.cells #[.string s1, .int .i64 0] 47)).alloc (.cells #[.string s2, .int .i64 0] 47) = w5 := ⟨_, rfl⟩
      rw [hw5] at K5 ⊢
      obtain ⟨P, hP⟩ : ∃ P, w4.heap.size = P := ⟨_, rfl⟩
      obtain ⟨Q, hQ⟩ : ∃ Q, w4.heap.size + 1 = Q := ⟨_, rfl⟩
      rw [hQ, hP] at K5 ⊢
      clear hw5 hQ H4 C1 C2
      have K := Lib.hid (K5.out.next (Below.refl _ w5).drew)
      clear K5
      go_region_held3 (fun w' => w'.cell? ⟨P, 0, none⟩ = some (.string s1) ∧ w'.cell? ⟨Q, 0, none⟩ = some (.string s2)) (exact ⟨K.out.t1.c0, K.out.t2.c0⟩)
        (first
          | (go_at_call 15; (with_reducible refine (L1.out _).mono ?_); rintro e w6 ⟨gA, capA, rfl, hLA, hb6⟩; have LA := Lib.hid hLA; replace K := Lib.hid (K.out.next hb6); clear hLA hb6)
          | (go_at_call 15; (with_reducible refine (L2.out _).mono ?_); rintro e w7 ⟨gB, capB, rfl, hLB, hb7⟩; have LB := Lib.hid hLB; replace LA := Lib.hid (LA.out.next hb7); replace K := Lib.hid (K.out.next hb7); clear hLB hb7))
      clear L1 L2
      have J7 : Hid (RoundSt w.heap.size P Q k g7 g8 g9 g10 cap7 cap8 cap9 cap10 gA gB ns cn s1 s2 w w7) := Lib.hid ⟨K.out, LA.out, LB.out, HR.out, hTl⟩
      clear K LA LB
      obtain ⟨L0, hL0⟩ : ∃ x, lineAt ns cn 0 = x := ⟨_, rfl⟩
      obtain ⟨LZ, hLZ⟩ : ∃ x, lineAt ns cn (k + 1) = x := ⟨_, rfl⟩
      have F0 := Lib.hid (fun w' (h : RoundSt w.heap.size P Q k g7 g8 g9 g10 cap7 cap8 cap9 cap10 gA gB ns cn s1 s2 w w') => h.ends hL0 hLZ)
      have HL0 := Lib.hid hL0
      have HLZ := Lib.hid hLZ
      clear hL0 hLZ
      have hw1 : IntKind.i64.wrap ((k : Int) + 1) = (k : Int) + 1 := IntWalk.i64_in _ (by omega)
      have hw2 : IntKind.i64.wrap ((k : Int) + 2) = (k : Int) + 2 := IntWalk.i64_in _ (by omega)
      have f1 : (0 : Int) ≤ (k : Int) + 1 := by omega
      have f2 : (k : Int) + 1 < (k : Int) + 2 := by omega
      have f3 : (0 : Int) < (k : Int) + 2 := by omega
      have f4 : ((k : Int) + 1).toNat = k + 1 := by omega
      have f5 : ((k : Int) + 2 != (k : Int) + 2) = false := by simp
      go_wp2_with fail
      apply wp_region_kept (RoundSt w.heap.size P Q k g7 g8 g9 g10 cap7 cap8 cap9 cap10 gA gB ns cn s1 s2 w) (hm := by kernel_rfl) (hB := by kernel_rfl) (hb := by kernel_rfl) (hJ := J7.out.next (Below.refl _ w7).drew)
      · go_light
        repeat (first
          | (apply keep_run
             · go_simp
             · unfold gives
               intro w8 hw
               obtain ⟨p0, p1, p2, p3, p4, p5⟩ := F0.out _ hw
               go_simp
               first
                 | exact ⟨rfl, hw⟩
                 | rfl
             intro K hK
             go_simp
             refine hK _ ?_
             clear hK K)
          | (refine keep_skip ?_ ?_
             · (go_simp; done)
             intro K hK
             go_simp
             refine hK _ ?_
             clear hK K))
        exact keep_done
      intro w8 h8
      have J8 := Lib.hid h8
      clear h8 J7
      go_wp2_with fail
      go_loopw [19] (fun v19 wr => ∃ i : Nat, i ≤ k + 2 ∧ v19 = .int .i64 (i : Int) ∧ RoundSt w.heap.size P Q k g7 g8 g9 g10 cap7 cap8 cap9 cap10 gA gB ns cn s1 s2 w wr) (fun v19 _ => k + 2 - (intOf v19).toNat)
      case atStart => exact ⟨0, Nat.zero_le _, rfl, J8.out⟩
      case round =>
        obtain ⟨i, hik, rfl, h⟩ := hrel
        have J9 := Lib.hid h
        clear h J8
        by_cases hlt : i < k + 2
        · have hwi : IntKind.i64.wrap ((i : Int) + 1) = (i : Int) + 1 := IntWalk.i64_in _ (by omega)
          by_cases hi0 : i = 0
          · as_aux_lemma =>
              subst hi0
              go_wp2_with fail
              apply wp_region_kept (RoundSt w.heap.size P Q k g7 g8 g9 g10 cap7 cap8 cap9 cap10 gA gB ns cn s1 s2 w) (hm := by kernel_rfl) (hB := by kernel_rfl) (hb := by kernel_rfl) (hJ := J9.out.next (Below.refl _ _).drew)
              · go_light
                repeat (first
                  | (apply keep_run
                     · go_simp
                     · unfold gives
                       intro w8 hw
                       obtain ⟨p0, p1, p2, p3, p4, p5⟩ := F0.out _ hw
                       go_simp
                       first
                         | exact ⟨rfl, hw⟩
                         | rfl
                     intro K hK
                     go_simp
                     refine hK _ ?_
                     clear hK K)
                  | (refine keep_skip ?_ ?_
                     · (go_simp; first | done | exact (fun h => by have h2 : (none : Option Bool) = some false := h; cases h2) | exact (fun h => by have h2 : (none : Option Bool) = some true := h; cases h2))
                     intro K hK
                     go_simp
                     refine hK _ ?_
                     clear hK K))
                exact keep_done
              intro wa ha
              have JA := Lib.hid ha
              clear ha J9
              go_wp2_with fail
              go_roundw
              case rel => exact ⟨0 + 1, by omega, by go_num, JA.out⟩
              case measure => go_light; simp [intOf]
          · have c1 : (0 : Int) < (i : Int) := by omega
            have c2 : (i : Int) < (k : Int) + 2 := by omega
            have c3 : (0 : Int) ≤ (i : Int) := by omega
            by_cases hi1 : i = k + 1
            · as_aux_lemma =>
                have c4 : ¬ (i : Int) ≤ (k : Int) := by omega
                have c5 : 0 < i := by omega
                have c6 : ¬ i ≤ k := by omega
                have hsz : LZ.size = L0.size := by rw [← HLZ.out, ← HL0.out]; exact lineAt_size HR.out (k + 1) (by omega)
                have HI1 := Lib.hid hi1
                clear hi1
                go_wp2_with fail
                apply wp_region_kept (RoundSt w.heap.size P Q k g7 g8 g9 g10 cap7 cap8 cap9 cap10 gA gB ns cn s1 s2 w) (hm := by kernel_rfl) (hB := by kernel_rfl) (hb := by kernel_rfl) (hJ := J9.out.next (Below.refl _ _).drew)
                · go_light
                  repeat (first
                    | (apply keep_run
                       · go_simp
                       · unfold gives
                         intro w8 hw
                         obtain ⟨p0, p1, p2, p3, p4, p5⟩ := F0.out _ hw
                         rw [← HI1.out] at p4
                         go_simp
                         first
                           | exact ⟨rfl, hw⟩
                           | rfl
                       intro K hK
                       go_simp
                       refine hK _ ?_
                       clear hK K)
                    | (refine keep_skip ?_ ?_
                       · (go_simp; first | done | exact (fun h => by have h2 : (none : Option Bool) = some false := h; cases h2) | exact (fun h => by have h2 : (none : Option Bool) = some true := h; cases h2))
                       intro K hK
                       go_simp
                       refine hK _ ?_
                       clear hK K))
                  exact keep_done
                intro wa ha
                have JA := Lib.hid ha
                clear ha J9
                go_wp2_with fail
                go_roundw
                case rel => exact ⟨i + 1, by omega, by go_num, JA.out⟩
                case measure => go_light; simp [intOf]; omega
            · as_aux_lemma =>
                obtain ⟨j, d, Li, nm, D, κ, hM⟩ := RoundSt.mid (A := w.heap.size) (P := P) (Q := Q) (g7 := g7) (g8 := g8) (g9 := g9) (g10 := g10) (c7 := cap7) (c8 := cap8) (c9 := cap9) (c10 := cap10) (gA := gA) (gB := gB) (s1 := s1) (s2 := s2) (w := w) HR.out hTl hNl HL0.out i (by omega) (by omega)
                have c4 : (i : Int) ≤ (k : Int) := by omega
                have d1 := hM.hj
                have d2 := hM.hd
                have d3 := hM.lt
                have d4 := hM.le
                have d5 := hM.small
                have hsz := hM.size
                have hhead := hM.head
                have HM := Lib.hid hM
                clear hM
                have m1 : IntKind.i64.wrap ((i : Int) - 1) = (j : Int) := (IntWalk.i64_in _ (by omega)).trans (by omega)
                have m2 : IntKind.i64.wrap ((k : Int) + 1 - (i : Int)) = (d : Int) := (IntWalk.i64_in _ (by omega)).trans (by omega)
                have m3 : IntKind.i64.wrap ((nm.size : Int) + 1) = (nm.size : Int) + 1 := IntWalk.i64_in _ (by omega)
                have m4 : (j : Int) < (k : Int) := by omega
                have m5 : (d : Int) < (k : Int) + 2 := by omega
                have m6 : (0 : Int) ≤ (nm.size : Int) + 1 := by omega
                have m7 : (nm.size : Int) + 1 ≤ (L0.size : Int) := by omega
                have m8 : ¬ ((L0.size : Int) ≤ (nm.size : Int)) := by omega
                have m9 : ¬ (L0.size ≤ nm.size) := by omega
                have m10 : ((nm.size : Int) + 1).toNat = nm.size + 1 := by omega
                have m11 : ¬ 9223372036854775807 < nm.size + 1 := by omega
                have m12 : ¬ 9223372036854775807 < 37 + D.size := by omega
                have m13 : j < k := by omega
                have c5 : 0 < i := by omega
                have c6 : i ≤ k := by omega
                have hfc := fieldC
                have hfm := fieldM
                clear d1 d2 d3 d4 d5
                go_wp2_with fail
                apply wp_region_kept (RoundSt w.heap.size P Q k g7 g8 g9 g10 cap7 cap8 cap9 cap10 gA gB ns cn s1 s2 w) (hm := by kernel_rfl) (hB := by kernel_rfl) (hb := by kernel_rfl) (hJ := J9.out.next (Below.refl _ _).drew)
                · go_light
                  repeat (first
                    | (apply keep_run
                       · go_simp
                       · unfold gives
                         intro w8 hw
                         obtain ⟨q0, q1, q2, q3, q4⟩ := HM.out.cells _ hw
                         go_simp
                         first
                           | exact ⟨rfl, hw⟩
                           | rfl
                           | (go_at_call 16; (with_reducible refine (HM.out.last _).mono ?_); rintro e w6 ⟨rfl, rfl⟩; exact ⟨rfl, hw⟩)
                           | (go_at_call 13; (with_reducible refine (HM.out.parsed _ hw.two.rep.env).mono ?_); rintro e w6 ⟨rfl, hb6⟩; exact ⟨rfl, hw.next hb6⟩)
                       intro K hK
                       go_simp
                       refine hK _ ?_
                       clear hK K)
                    | (refine keep_skip ?_ ?_
                       · (go_simp; first | done | exact (fun h => by have h2 : (none : Option Bool) = some false := h; cases h2) | exact (fun h => by have h2 : (none : Option Bool) = some true := h; cases h2))
                       intro K hK
                       go_simp
                       refine hK _ ?_
                       clear hK K))
                  exact keep_done
                intro wa ha
                have JA := Lib.hid ha
                clear ha J9
                go_wp2_with fail
                go_roundw
                case rel => exact ⟨i + 1, by omega, by go_num, JA.out⟩
                case measure => go_light; simp [intOf]; omega
        · as_aux_lemma =>
            obtain ⟨D, hD, hl, hp⟩ := lastC HR.out (k + 1) (by omega) (by omega)
            have hsum : lastK cn (k + 1) = sumI C4.k cn := by
              unfold lastK
              rw [if_neg (by omega), sumC_plain HR.out]
            rw [hsum] at hp
            rw [HLZ.out] at hl
            have HLz := Lib.hid hl
            have HPz := Lib.hid hp
            have m12 : ¬ 9223372036854775807 < 37 + D.size := by omega
            clear hl hp hsum
            have hfc := fieldC
            have hfm := fieldM
            obtain ⟨p0, p1, p2, p3, p4, p5⟩ := F0.out _ J9.out
            go_wp2_with (first
              | (go_at_call 16; (with_reducible refine (HLz.out _).mono ?_); rintro e w6 ⟨rfl, rfl⟩)
              | (go_at_call 13; (with_reducible refine (HPz.out _ J9.out.two.rep.env).mono ?_); rintro e w6 ⟨rfl, hb6⟩; have J10 := Lib.hid (J9.out.next hb6); clear hb6))
            go_ret
            exact ⟨rfl, J10.out.two.rep.below⟩
end Go.Proofs.YtdalfkdfpeffdaaDoor
