/- Proved here: the closure of slices.Values over a table, and a Builder beside it; for every table that lies in memory. -/
import Derived.Test.YtdalfkdfpeffdaaDoorMH
import Derived.RangeFuncNested
import Derived.RangeFuncBound
import Derived.RangeFuncCalls
import Derived.RangeFuncLeaves
import Derived.Shelf.Abstract
import Derived.OwnWalkIn
import Derived.TacticsInMore
import Derived.LoopNIn
import Derived.LoopIn
namespace Go.Proofs.YtdalfkdfpeffdaaDoor
open Go.RowKit Go.Shelf
attribute [local go_sem] Oper.semAt_some

/-- What has come when k rounds are over. -/
def upto {α : Type} (f : Nat → α) (k : Nat) : List α := (List.range k).map f
theorem upto_succ {α : Type} (f : Nat → α) (k : Nat) : upto f (k + 1) = upto f k ++ [f k] := by simp [upto, List.range_succ]
theorem upto_length {α : Type} (f : Nat → α) (k : Nat) : (upto f k).length = k := by simp [upto]

set_option maxRecDepth 100000 in
set_option maxHeartbeats 2000000 in
/-- slices.Values's closure over a table of rows: for every loop body that keeps what lay below n0. -/
theorem values1_in {α : Type} (enc : α → Value) (f : Nat → α) (F : Fence) (n : Nat) (h7 : F.fn 48) (hro : F.round = none) (hn : 1 ≤ n) (l Bs n₀ b off len cap : Nat) (hreach : len * 24 ≤ 140737488351232) (hb : b < n₀) (J Jx : List α → World → Prop)
    (hY : ∀ pre x W, J pre W → pre.length < len → YieldAt F (n - 1) Tryd.prog l #[enc x] W fun e W' =>
      (e = .returned (.bool true) ∧ J (pre ++ [x]) W' ∧ Below n₀ W W') ∨ (e = .returned (.bool false) ∧ Jx (pre ++ [x]) W'))
    (W : World) (hBs : W.cell? ⟨Bs, 0, none⟩ = some (.slice (some ⟨b, off, none⟩) len cap)) (hc : ∀ j, j < len → W.cell? ⟨b, off + j, none⟩ = some (enc (f j))) (h0 : J [] W) :
    CallsIn F n Tryd.prog 48 #[.func (.yield l) #[] #[], .pointer (some ⟨Bs, 0, none⟩)] W fun e W' => (∃ v, e = .returned v) ∧
      ((∃ ys, ys = upto f len ∧ J ys W') ∨ (∃ pre, (∃ k, k ≤ len ∧ pre = upto f k) ∧ Jx pre W')) := by
  refine callsIn_of_wp Tryd.func48 rfl h7 ?_ hro
  simp only [Tryd.ntmps48, List.size_toArray, List.length_cons, List.length_nil, Nat.reduceAdd, Nat.reduceSub, Array.replicate_succ, Array.replicate_zero, List.push_toArray, List.append_toArray, List.nil_append, List.cons_append]
  gi_wp2
  gi_loopw [7] (fun i wr => ∃ k : Nat, k ≤ len ∧ i = .int .i64 k ∧ J (upto f k) wr ∧ Below n₀ W wr)
    (fun i _ => len - (intOf i).toNat)
  case atStart => exact ⟨0, Nat.zero_le _, rfl, h0, Below.refl _ _⟩
  case round =>
    obtain ⟨k, hk, rfl, hJs, hnx⟩ := hrel
    have hcx : k < len → wr.cell? ⟨b, off + k, none⟩ = some (enc (f k)) := fun h => (hnx.cell (p := ⟨b, off + k, none⟩) hb).trans (hc k h)
    by_cases hlt : k < len
    · obtain ⟨fn, tmps, assign, body, hy, hR⟩ := hY _ (f k) wr hJs (by rw [upto_length]; exact hlt)
      have hcx' := hcx hlt
      gi_wp2
      refine hR.mono ?_
      rintro e W3 (⟨rfl, hJ3, hk3⟩ | ⟨rfl, hJx3⟩)
      · gi_wp2
        go_roundw
        case rel => exact ⟨k + 1, by omega, by simp, by rw [upto_succ]; exact hJ3, hnx.trans hk3⟩
        case measure => simp [intOf]; omega
      · gi_wp2
        refine bodyPost_ret (results_none rfl _ _ _) rfl ?_
        exact ⟨⟨_, rfl⟩, .inr ⟨_, ⟨k + 1, by omega, (upto_succ _ _).symm⟩, hJx3⟩⟩
    · obtain rfl : k = len := by omega
      gi_wp2
      go_end0
      exact ⟨⟨_, rfl⟩, .inl ⟨_, rfl, hJs⟩⟩

set_option maxHeartbeats 1000000 in
/-- slices.Values at a table: the slice value is boxed; the function value captures the box. -/
theorem values_any (a : Option Addr) (len cap : Nat) (w : World) :
    Calls Tryd.prog 37 #[.slice a len cap] w fun e w' => e = .returned (.func (.func 48) #[] #[.pointer (some ⟨w.heap.size, 0, none⟩)]) ∧ w' = w.alloc (.cells #[.slice a len cap] 79) := by
  go_enter Tryd.func37, Tryd.ntmps37
  go_wp2
  go_ret
  exact ⟨rfl, rfl⟩

/-- slices.Values hands back a value that gives all rows in order, or a prefix. -/
theorem values_stops {α : Type} (enc : α → Value) (f : Nat → α) (F : Fence) (n : Nat) (h7 : F.fn 48) (hro : F.round = none) (hn : 1 ≤ n) (Bs n₀ b off len cap : Nat) (hreach : len * 24 ≤ 140737488351232) (hb : b < n₀) (w : World) (hBs : Bs < w.heap.size) (hn₀ : n₀ ≤ w.heap.size)
    (hbx : w.cell? ⟨Bs, 0, none⟩ = some (.slice (some ⟨b, off, none⟩) len cap)) (hc : ∀ j, j < len → w.cell? ⟨b, off + j, none⟩ = some (enc (f j))) :
    SeqStopsK F n Tryd.prog 48 #[.pointer (some ⟨Bs, 0, none⟩)] (fun x : α => #[enc x]) (Below n₀) (fun ys => ys = upto f len) (fun pre => ∃ k, k ≤ len ∧ pre = upto f k) len w := fun l J Jx W hW _ _ hY h0 => by
  have hc' := (hW.cell (p := ⟨Bs, 0, none⟩) hBs).trans hbx
  refine (values1_in enc f F n h7 hro hn l Bs n₀ b off len cap hreach hb J Jx hY W hc' (fun j hj => (hW.cell (p := ⟨b, off + j, none⟩) (show b < _ by omega)).trans (hc j hj)) h0).mono ?_
  rintro e W' ⟨he, ⟨ys, rfl, hj⟩ | ⟨pre, hk, hj⟩⟩
  · exact ⟨he, .inl ⟨_, rfl, hj⟩⟩
  · exact ⟨he, .inr ⟨_, hk, hj⟩⟩

/-- A builder of the call's own, in the form that a loop over a function value wants. -/
def BldF (b : Nat) (l : List UInt8) (w : World) : Prop := Lib.IsBuilderF 68 5 b b (Lib.byteCells l) w

theorem BldF.kept {b : Nat} {l : List UInt8} {w w' : World} {row : Option Nat} (h : BldF b l w) (hg : w.grownBy w' row) (hr : ∀ r, row = some r → ∃ o : Obj, w.heap[r]? = some o ∧ o.isCells = false) : BldF b l w' := by
  have key : ∀ (k : Nat) (cs : Array Value) (T : TypeId) (fr : Nat × Nat), w.heap[k]? = some (.cells cs T fr) → some k ≠ row := by
    intro k cs T fr hk e
    obtain ⟨o, ho, hc⟩ := hr k e.symm
    rw [hk] at ho
    cases ho
    cases hc
  have go : ∀ p, Lib.BuilderAtF 68 5 b b p (Lib.byteCells l) w → Lib.BuilderAtF 68 5 b b p (Lib.byteCells l) w' := by
    rintro p ⟨h1, v, h2, h3, h4⟩
    refine ⟨h1, v, by rw [hg.block b (Array.getElem?_eq_some_iff.1 h2).1 (key _ _ _ _ h2)]; exact h2, ?_, h4⟩
    refine h3.kept hg ?_
    cases hv : v.ownBlock with
    | none => exact .inl rfl
    | some k =>
      refine .inr ?_
      rcases h3.2 with ⟨e, _⟩ | ⟨g, cap, cur, fz, e, _, hh, _⟩
      · rw [e] at hv; simp [Value.ownBlock] at hv
      · rw [e] at hv; simp [Value.ownBlock] at hv; subst hv; exact key _ _ _ _ hh
  rcases h with h | h
  · exact .inl (go _ h)
  · exact .inr (go _ h)

theorem BldF.next {b : Nat} {l : List UInt8} {w w' : World} (h : BldF b l w) (hb : Below w.heap.size w w') : BldF b l w' :=
  h.kept (row := none) ⟨hb.os, hb.tape, hb.output, hb.size, fun k hk _ => hb.block k hk⟩ (fun r e => by cases e)

theorem BldF.lt {b : Nat} {l : List UInt8} {w : World} (h : BldF b l w) : b < w.heap.size := by
  rcases h with ⟨h1, v, h2, h3, h4⟩ | ⟨h1, v, h2, h3, h4⟩ <;> exact (Array.getElem?_eq_some_iff.1 h2).1

theorem keepsOthers_below {w w' : World} (h : Below w.heap.size w w') : KeepsOthers w w' :=
  ⟨h.size, fun k o hk _ => by rw [h.block k (Array.getElem?_eq_some_iff.1 hk).1]; exact hk⟩

theorem writeF_any (b : Nat) (l : List UInt8) (s : ByteArray) (w : World) (h : BldF b l w) (hlen : l.length + s.size ≤ 140737488355328) :
    Calls Tryd.prog 29 #[.pointer (some ⟨b, 0, none⟩), .string s] w fun e w' =>
      e = .returned (.tuple #[.int .i64 s.size, .nilIface]) ∧ BldF b (l ++ s.data.toList) w' ∧ Below b w w' ∧ KeepsOthers w w' :=
  (Any.Builder_WriteString_k { Tryd.lays156 with } Tryd.Builder_Extra_156 b b (Lib.byteCells l) s w h (by rw [Lib.byteCells_length]; exact hlen) (Nat.le_of_lt h.lt)).mono
    fun _ w' ⟨he, h1, h2, h3⟩ => ⟨he, by rw [byteCells_add] at h1; exact .inr h1, h2, h2.size, fun k o hk ho => by
      refine h3 k o hk ?_ ?_
      · intro e
        cases e
        rcases h with ⟨_, v, hh, _⟩ | ⟨_, v, hh, _⟩ <;> (rw [hh] at hk; cases hk; cases ho)
      · intro c fz e
        subst e
        cases ho⟩

theorem stringF_any (b : Nat) (l : List UInt8) (w : World) (h : BldF b l w) :
    Calls Tryd.prog 30 #[.pointer (some ⟨b, 0, none⟩)] w fun e w' => e = .returned (.string ⟨l.toArray⟩) ∧ Below b w w' ∧ KeepsOthers w w' :=
  (Tryd.Builder_String_any_k b b l w h (Nat.le_of_lt h.lt)).mono fun _ w' ⟨he, h1, h2, h3⟩ => ⟨he, h2, h2.size, fun k o hk ho => by
      refine h3 k o hk ?_ ?_
      · intro e
        cases e
        rcases h with ⟨_, v, hh, _⟩ | ⟨_, v, hh, _⟩ <;> (rw [hh] at hk; cases hk; cases ho)
      · intro c fz e
        subst e
        cases ho⟩

end Go.Proofs.YtdalfkdfpeffdaaDoor
