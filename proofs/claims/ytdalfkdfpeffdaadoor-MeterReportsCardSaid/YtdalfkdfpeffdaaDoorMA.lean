/- Proved here: meter.parts hands back the four places of a cost, and meter.plain says whether four numbers lie in range; for every world. -/
import Derived.Test.YtdalfkdfpeffdaaDoorProg
import Derived.WalkKit
import Derived.WalkSpells
import Derived.WalkLawsBesides
namespace Go.Proofs.YtdalfkdfpeffdaaDoor
open Go.RowKit

set_option maxHeartbeats 400000 in
theorem parts_any (b : Nat) (w : World) :
    Calls Tryd.prog 21 #[.pointer (some ⟨b, 0, none⟩)] w fun e w' =>
      e = .returned (.agg #[.pointer (some ⟨b, 0, none⟩), .pointer (some ⟨b, 1, none⟩), .pointer (some ⟨b, 2, none⟩), .pointer (some ⟨b, 3, none⟩)]) ∧ w' = (w.alloc (.cells #[.pointer (some ⟨b, 0, none⟩), .pointer (some ⟨b, 1, none⟩), .pointer (some ⟨b, 2, none⟩), .pointer (some ⟨b, 3, none⟩)] 55)).drew := by
  go_enter Tryd.func21, Tryd.ntmps21
  go_wp2
  go_region
  go_wp2
  exact bodyPost_ret (v := .agg #[.pointer (some ⟨b, 0, none⟩), .pointer (some ⟨b, 1, none⟩), .pointer (some ⟨b, 2, none⟩), .pointer (some ⟨b, 3, none⟩)]) (by simp [results, Tryd.results21, go_sem]) rfl ⟨rfl, rfl⟩

set_option maxHeartbeats 400000 in
theorem add1_any (x y : Int) (w : World) :
    Calls Tryd.prog 19 #[.int .i64 x, .int .i64 y] w fun e w' => e = .returned (.int .i64 (wrap64 (x + y))) ∧ w = w' := by
  go_enter Tryd.func19, Tryd.ntmps19
  go_wp2
  go_ret
  exact ⟨rfl, rfl⟩

set_option maxHeartbeats 400000 in
theorem sub1_any (x y : Int) (w : World) :
    Calls Tryd.prog 20 #[.int .i64 x, .int .i64 y] w fun e w' => e = .returned (.int .i64 (wrap64 (x - y))) ∧ w = w' := by
  go_enter Tryd.func20, Tryd.ntmps20
  go_wp2
  go_ret
  exact ⟨rfl, rfl⟩

theorem ix0 (a b c d : Option Addr) (w : World) : (Instr.index 55 (.agg #[.pointer a, .pointer b, .pointer c, .pointer d]) (.int .i64 0)).run Tryd.prog w = .ok (.pointer a) w := by kernel_rfl
theorem ix1 (a b c d : Option Addr) (w : World) : (Instr.index 55 (.agg #[.pointer a, .pointer b, .pointer c, .pointer d]) (.int .i64 1)).run Tryd.prog w = .ok (.pointer b) w := by kernel_rfl
theorem ix2 (a b c d : Option Addr) (w : World) : (Instr.index 55 (.agg #[.pointer a, .pointer b, .pointer c, .pointer d]) (.int .i64 2)).run Tryd.prog w = .ok (.pointer c) w := by kernel_rfl
theorem ix3 (a b c d : Option Addr) (w : World) : (Instr.index 55 (.agg #[.pointer a, .pointer b, .pointer c, .pointer d]) (.int .i64 3)).run Tryd.prog w = .ok (.pointer d) w := by kernel_rfl

set_option maxRecDepth 100000 in
set_option maxHeartbeats 1000000 in
theorem plain_yes (i s m k : Int) (w : World) (hi : 0 ≤ i) (hi' : i ≤ 1099511627776) (hs : 0 ≤ s) (hs' : s ≤ 1099511627776) (hm : 0 ≤ m) (hm' : m ≤ 1099511627776) (hk : 0 ≤ k) (hk' : k ≤ 1099511627776) :
    Calls Tryd.prog 34 #[.agg #[.int .i64 i, .int .i64 s, .int .i64 m, .int .i64 k]] w fun e w' =>
      e = .returned (.bool true) ∧ Below w.heap.size w w' := by
  have j0 := ix0
  have j1 := ix1
  have j2 := ix2
  have j3 := ix3
  go_enter Tryd.func34, Tryd.ntmps34
  go_wp2_with (go_at_call 21; refine (parts_any _ _).mono ?_; rintro e w' ⟨rfl, rfl⟩)
  refine wp_loop_rounds 5 ?_
  rw [rounds_succ]; go_wp2
  rw [rounds_succ]; go_wp2
  rw [rounds_succ]; go_wp2
  rw [rounds_succ]; go_wp2
  rw [rounds_succ]; go_wp2
  go_ret
  exact ⟨rfl, (((Below.refl _ w).alloc (Nat.le_refl _) _).alloc (by simp) _).drew⟩

set_option maxRecDepth 100000 in
set_option maxHeartbeats 1000000 in
theorem plain_lo0 (i s m k : Int) (w : World) (h : i < 0) :
    Calls Tryd.prog 34 #[.agg #[.int .i64 i, .int .i64 s, .int .i64 m, .int .i64 k]] w fun e w' =>
      e = .returned (.bool false) ∧ Below w.heap.size w w' := by
  have j0 := ix0
  have j1 := ix1
  have j2 := ix2
  have j3 := ix3
  go_enter Tryd.func34, Tryd.ntmps34
  go_wp2_with (go_at_call 21; refine (parts_any _ _).mono ?_; rintro e w' ⟨rfl, rfl⟩)
  refine wp_loop_rounds 5 ?_
  rw [rounds_succ]; go_wp2
  go_ret
  exact ⟨rfl, (((Below.refl _ w).alloc (Nat.le_refl _) _).alloc (by simp) _).drew⟩

set_option maxRecDepth 100000 in
set_option maxHeartbeats 1000000 in
theorem plain_hi0 (i s m k : Int) (w : World) (h : 1099511627776 < i) :
    Calls Tryd.prog 34 #[.agg #[.int .i64 i, .int .i64 s, .int .i64 m, .int .i64 k]] w fun e w' =>
      e = .returned (.bool false) ∧ Below w.heap.size w w' := by
  have j0 := ix0
  have j1 := ix1
  have j2 := ix2
  have j3 := ix3
  go_enter Tryd.func34, Tryd.ntmps34
  go_wp2_with (go_at_call 21; refine (parts_any _ _).mono ?_; rintro e w' ⟨rfl, rfl⟩)
  refine wp_loop_rounds 5 ?_
  rw [rounds_succ]; go_wp2
  go_ret
  exact ⟨rfl, (((Below.refl _ w).alloc (Nat.le_refl _) _).alloc (by simp) _).drew⟩

set_option maxRecDepth 100000 in
set_option maxHeartbeats 1000000 in
theorem plain_lo1 (i s m k : Int) (w : World) (hi : 0 ≤ i) (hi' : i ≤ 1099511627776) (h : s < 0) :
    Calls Tryd.prog 34 #[.agg #[.int .i64 i, .int .i64 s, .int .i64 m, .int .i64 k]] w fun e w' =>
      e = .returned (.bool false) ∧ Below w.heap.size w w' := by
  have j0 := ix0
  have j1 := ix1
  have j2 := ix2
  have j3 := ix3
  go_enter Tryd.func34, Tryd.ntmps34
  go_wp2_with (go_at_call 21; refine (parts_any _ _).mono ?_; rintro e w' ⟨rfl, rfl⟩)
  refine wp_loop_rounds 5 ?_
  rw [rounds_succ]; go_wp2
  rw [rounds_succ]; go_wp2
  go_ret
  exact ⟨rfl, (((Below.refl _ w).alloc (Nat.le_refl _) _).alloc (by simp) _).drew⟩

set_option maxRecDepth 100000 in
set_option maxHeartbeats 1000000 in
theorem plain_hi1 (i s m k : Int) (w : World) (hi : 0 ≤ i) (hi' : i ≤ 1099511627776) (h : 1099511627776 < s) :
    Calls Tryd.prog 34 #[.agg #[.int .i64 i, .int .i64 s, .int .i64 m, .int .i64 k]] w fun e w' =>
      e = .returned (.bool false) ∧ Below w.heap.size w w' := by
  have j0 := ix0
  have j1 := ix1
  have j2 := ix2
  have j3 := ix3
  go_enter Tryd.func34, Tryd.ntmps34
  go_wp2_with (go_at_call 21; refine (parts_any _ _).mono ?_; rintro e w' ⟨rfl, rfl⟩)
  refine wp_loop_rounds 5 ?_
  rw [rounds_succ]; go_wp2
  rw [rounds_succ]; go_wp2
  go_ret
  exact ⟨rfl, (((Below.refl _ w).alloc (Nat.le_refl _) _).alloc (by simp) _).drew⟩

set_option maxRecDepth 100000 in
set_option maxHeartbeats 1000000 in
theorem plain_lo2 (i s m k : Int) (w : World) (hi : 0 ≤ i) (hi' : i ≤ 1099511627776) (hs : 0 ≤ s) (hs' : s ≤ 1099511627776) (h : m < 0) :
    Calls Tryd.prog 34 #[.agg #[.int .i64 i, .int .i64 s, .int .i64 m, .int .i64 k]] w fun e w' =>
      e = .returned (.bool false) ∧ Below w.heap.size w w' := by
  have j0 := ix0
  have j1 := ix1
  have j2 := ix2
  have j3 := ix3
  go_enter Tryd.func34, Tryd.ntmps34
  go_wp2_with (go_at_call 21; refine (parts_any _ _).mono ?_; rintro e w' ⟨rfl, rfl⟩)
  refine wp_loop_rounds 5 ?_
  rw [rounds_succ]; go_wp2
  rw [rounds_succ]; go_wp2
  rw [rounds_succ]; go_wp2
  go_ret
  exact ⟨rfl, (((Below.refl _ w).alloc (Nat.le_refl _) _).alloc (by simp) _).drew⟩

set_option maxRecDepth 100000 in
set_option maxHeartbeats 1000000 in
theorem plain_hi2 (i s m k : Int) (w : World) (hi : 0 ≤ i) (hi' : i ≤ 1099511627776) (hs : 0 ≤ s) (hs' : s ≤ 1099511627776) (h : 1099511627776 < m) :
    Calls Tryd.prog 34 #[.agg #[.int .i64 i, .int .i64 s, .int .i64 m, .int .i64 k]] w fun e w' =>
      e = .returned (.bool false) ∧ Below w.heap.size w w' := by
  have j0 := ix0
  have j1 := ix1
  have j2 := ix2
  have j3 := ix3
  go_enter Tryd.func34, Tryd.ntmps34
  go_wp2_with (go_at_call 21; refine (parts_any _ _).mono ?_; rintro e w' ⟨rfl, rfl⟩)
  refine wp_loop_rounds 5 ?_
  rw [rounds_succ]; go_wp2
  rw [rounds_succ]; go_wp2
  rw [rounds_succ]; go_wp2
  go_ret
  exact ⟨rfl, (((Below.refl _ w).alloc (Nat.le_refl _) _).alloc (by simp) _).drew⟩

set_option maxRecDepth 100000 in
set_option maxHeartbeats 1000000 in
theorem plain_lo3 (i s m k : Int) (w : World) (hi : 0 ≤ i) (hi' : i ≤ 1099511627776) (hs : 0 ≤ s) (hs' : s ≤ 1099511627776) (hm : 0 ≤ m) (hm' : m ≤ 1099511627776) (h : k < 0) :
    Calls Tryd.prog 34 #[.agg #[.int .i64 i, .int .i64 s, .int .i64 m, .int .i64 k]] w fun e w' =>
      e = .returned (.bool false) ∧ Below w.heap.size w w' := by
  have j0 := ix0
  have j1 := ix1
  have j2 := ix2
  have j3 := ix3
  go_enter Tryd.func34, Tryd.ntmps34
  go_wp2_with (go_at_call 21; refine (parts_any _ _).mono ?_; rintro e w' ⟨rfl, rfl⟩)
  refine wp_loop_rounds 5 ?_
  rw [rounds_succ]; go_wp2
  rw [rounds_succ]; go_wp2
  rw [rounds_succ]; go_wp2
  rw [rounds_succ]; go_wp2
  go_ret
  exact ⟨rfl, (((Below.refl _ w).alloc (Nat.le_refl _) _).alloc (by simp) _).drew⟩

set_option maxRecDepth 100000 in
set_option maxHeartbeats 1000000 in
theorem plain_hi3 (i s m k : Int) (w : World) (hi : 0 ≤ i) (hi' : i ≤ 1099511627776) (hs : 0 ≤ s) (hs' : s ≤ 1099511627776) (hm : 0 ≤ m) (hm' : m ≤ 1099511627776) (h : 1099511627776 < k) :
    Calls Tryd.prog 34 #[.agg #[.int .i64 i, .int .i64 s, .int .i64 m, .int .i64 k]] w fun e w' =>
      e = .returned (.bool false) ∧ Below w.heap.size w w' := by
  have j0 := ix0
  have j1 := ix1
  have j2 := ix2
  have j3 := ix3
  go_enter Tryd.func34, Tryd.ntmps34
  go_wp2_with (go_at_call 21; refine (parts_any _ _).mono ?_; rintro e w' ⟨rfl, rfl⟩)
  refine wp_loop_rounds 5 ?_
  rw [rounds_succ]; go_wp2
  rw [rounds_succ]; go_wp2
  rw [rounds_succ]; go_wp2
  rw [rounds_succ]; go_wp2
  go_ret
  exact ⟨rfl, (((Below.refl _ w).alloc (Nat.le_refl _) _).alloc (by simp) _).drew⟩

/-- A cost that the machine calls plain. -/
def plainB (i s m k : Int) : Bool := decide (0 ≤ i ∧ i ≤ 1099511627776 ∧ 0 ≤ s ∧ s ≤ 1099511627776 ∧ 0 ≤ m ∧ m ≤ 1099511627776 ∧ 0 ≤ k ∧ k ≤ 1099511627776)

theorem plain_any (i s m k : Int) (w : World) :
    Calls Tryd.prog 34 #[.agg #[.int .i64 i, .int .i64 s, .int .i64 m, .int .i64 k]] w fun e w' =>
      e = .returned (.bool (plainB i s m k)) ∧ Below w.heap.size w w' := by
  by_cases hi : 0 ≤ i ∧ i ≤ 1099511627776
  · by_cases hs : 0 ≤ s ∧ s ≤ 1099511627776
    · by_cases hm : 0 ≤ m ∧ m ≤ 1099511627776
      · by_cases hk : 0 ≤ k ∧ k ≤ 1099511627776
        · have e : plainB i s m k = true := by unfold plainB; rw [decide_eq_true_iff]; exact ⟨hi.1, hi.2, hs.1, hs.2, hm.1, hm.2, hk.1, hk.2⟩
          rw [e]; exact plain_yes i s m k w hi.1 hi.2 hs.1 hs.2 hm.1 hm.2 hk.1 hk.2
        · have e : plainB i s m k = false := by unfold plainB; rw [decide_eq_false_iff_not]; exact fun h => hk ⟨h.2.2.2.2.2.2.1, h.2.2.2.2.2.2.2⟩
          rw [e]
          by_cases h : k < 0
          · exact plain_lo3 i s m k w hi.1 hi.2 hs.1 hs.2 hm.1 hm.2 h
          · exact plain_hi3 i s m k w hi.1 hi.2 hs.1 hs.2 hm.1 hm.2 (by omega)
      · have e : plainB i s m k = false := by unfold plainB; rw [decide_eq_false_iff_not]; exact fun h => hm ⟨h.2.2.2.2.1, h.2.2.2.2.2.1⟩
        rw [e]
        by_cases h : m < 0
        · exact plain_lo2 i s m k w hi.1 hi.2 hs.1 hs.2 h
        · exact plain_hi2 i s m k w hi.1 hi.2 hs.1 hs.2 (by omega)
    · have e : plainB i s m k = false := by unfold plainB; rw [decide_eq_false_iff_not]; exact fun h => hs ⟨h.2.2.1, h.2.2.2.1⟩
      rw [e]
      by_cases h : s < 0
      · exact plain_lo1 i s m k w hi.1 hi.2 h
      · exact plain_hi1 i s m k w hi.1 hi.2 (by omega)
  · have e : plainB i s m k = false := by unfold plainB; rw [decide_eq_false_iff_not]; exact fun h => hi ⟨h.1, h.2.1⟩
    rw [e]
    by_cases h : i < 0
    · exact plain_lo0 i s m k w h
    · exact plain_hi0 i s m k w (by omega)
end Go.Proofs.YtdalfkdfpeffdaaDoor
