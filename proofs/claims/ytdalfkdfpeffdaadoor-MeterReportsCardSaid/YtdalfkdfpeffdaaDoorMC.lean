/- Proved here: meter.Add, Sub and AtMost come to what their names say of four numbers; for every two costs and every world. -/
import Derived.Test.YtdalfkdfpeffdaaDoorMB
import Derived.Deep.QuietTactic
import Derived.BigQuiet
import Derived.WalkSmall
namespace Go.Proofs.YtdalfkdfpeffdaaDoor
open Go.RowKit

/-- A place of four numbers that was laid ahead of a call: it is as it was behind the call. -/
theorem box4 {w w' : World} {o : Obj} {n : Nat} (hn : n = w.heap.size) (e : o = .cells #[.int .i64 0, .int .i64 0, .int .i64 0, .int .i64 0] 26 (0, 0)) (hb : Below (w.alloc o).heap.size (w.alloc o) w') :
    (w'.cell? ⟨n, 0, none⟩ = some (.int .i64 0) ∧ w'.cell? ⟨n, 1, none⟩ = some (.int .i64 0) ∧ w'.cell? ⟨n, 2, none⟩ = some (.int .i64 0) ∧ w'.cell? ⟨n, 3, none⟩ = some (.int .i64 0)) ∧
    (w'.frozen? ⟨n, 0, none⟩ = false ∧ w'.frozen? ⟨n, 1, none⟩ = false ∧ w'.frozen? ⟨n, 2, none⟩ = false ∧ w'.frozen? ⟨n, 3, none⟩ = false) ∧ Below w.heap.size w w' := by
  subst e
  subst hn
  refine ⟨⟨?_, ?_, ?_, ?_⟩, ⟨?_, ?_, ?_, ?_⟩, ?_⟩
  · rw [hb.cell (by simp)]; simp
  · rw [hb.cell (by simp)]; simp
  · rw [hb.cell (by simp)]; simp
  · rw [hb.cell (by simp)]; simp
  · rw [hb.frozen (by simp)]; simp
  · rw [hb.frozen (by simp)]; simp
  · rw [hb.frozen (by simp)]; simp
  · rw [hb.frozen (by simp)]; simp
  · exact ((Below.refl _ w).alloc (Nat.le_refl _) _).trans (hb.mono (by simp))

set_option maxRecDepth 100000 in
set_option maxHeartbeats 1000000 in
theorem add_any (a0 a1 a2 a3 b0 b1 b2 b3 : Int) (w : World) :
    Calls Tryd.prog 8 #[.agg #[.int .i64 a0, .int .i64 a1, .int .i64 a2, .int .i64 a3], .agg #[.int .i64 b0, .int .i64 b1, .int .i64 b2, .int .i64 b3]] w fun e w' =>
      e = .returned (.agg #[.int .i64 (wrap64 (a0 + b0)), .int .i64 (wrap64 (a1 + b1)), .int .i64 (wrap64 (a2 + b2)), .int .i64 (wrap64 (a3 + b3))]) ∧ Below w.heap.size w w' := by
  go_enter Tryd.func8, Tryd.ntmps8
  go_wp2_with (go_at_call 18; fail)
  refine (each_add _ _ _ _ _ _ _ _ _).mono ?_
  rintro e w' ⟨rfl, hb⟩
  obtain ⟨⟨c0, c1, c2, c3⟩, ⟨f0, f1, f2, f3⟩, hB0⟩ := box4 (n := w.heap.size + 1 + 1) (by simp) rfl hb
  have hB : Below w.heap.size w w' := (((Below.refl _ w).alloc (Nat.le_refl _) _).alloc (by simp) _).trans (hB0.mono (by simp; omega))
  clear hb hB0
  go_wp2
  have q0 : (w').cell? ⟨w.heap.size + 1 + 1, 0, none⟩ = some (.int .i64 0) := by simp [go_sem, c0]
  have q1 : ((w').setCell ⟨w.heap.size + 1 + 1, 0, none⟩ (.int .i64 (wrap64 (a0 + b0)))).cell? ⟨w.heap.size + 1 + 1, 1, none⟩ = some (.int .i64 0) := by simp [go_sem, c1]
  have q2 : (((w').setCell ⟨w.heap.size + 1 + 1, 0, none⟩ (.int .i64 (wrap64 (a0 + b0)))).setCell ⟨w.heap.size + 1 + 1, 1, none⟩ (.int .i64 (wrap64 (a1 + b1)))).cell? ⟨w.heap.size + 1 + 1, 2, none⟩ = some (.int .i64 0) := by simp [go_sem, c2]
  have q3 : ((((w').setCell ⟨w.heap.size + 1 + 1, 0, none⟩ (.int .i64 (wrap64 (a0 + b0)))).setCell ⟨w.heap.size + 1 + 1, 1, none⟩ (.int .i64 (wrap64 (a1 + b1)))).setCell ⟨w.heap.size + 1 + 1, 2, none⟩ (.int .i64 (wrap64 (a2 + b2)))).cell? ⟨w.heap.size + 1 + 1, 3, none⟩ = some (.int .i64 0) := by simp [go_sem, c3]
  refine bodyPost_ret (v := .agg #[.int .i64 (wrap64 (a0 + b0)), .int .i64 (wrap64 (a1 + b1)), .int .i64 (wrap64 (a2 + b2)), .int .i64 (wrap64 (a3 + b3))]) (by simp [results, Tryd.results8, go_sem, cell_set q0, cell_set q1, cell_set q2, cell_set q3]) rfl ⟨rfl, ?_⟩
  exact (((hB.setCell (by simp; omega) _).setCell (by simp; omega) _).setCell (by simp; omega) _).setCell (by simp; omega) _

set_option maxRecDepth 100000 in
set_option maxHeartbeats 1000000 in
theorem sub_any (a0 a1 a2 a3 b0 b1 b2 b3 : Int) (w : World) :
    Calls Tryd.prog 9 #[.agg #[.int .i64 a0, .int .i64 a1, .int .i64 a2, .int .i64 a3], .agg #[.int .i64 b0, .int .i64 b1, .int .i64 b2, .int .i64 b3]] w fun e w' =>
      e = .returned (.agg #[.int .i64 (wrap64 (a0 - b0)), .int .i64 (wrap64 (a1 - b1)), .int .i64 (wrap64 (a2 - b2)), .int .i64 (wrap64 (a3 - b3))]) ∧ Below w.heap.size w w' := by
  go_enter Tryd.func9, Tryd.ntmps9
  go_wp2_with (go_at_call 18; fail)
  refine (each_sub _ _ _ _ _ _ _ _ _).mono ?_
  rintro e w' ⟨rfl, hb⟩
  obtain ⟨⟨c0, c1, c2, c3⟩, ⟨f0, f1, f2, f3⟩, hB0⟩ := box4 (n := w.heap.size + 1 + 1) (by simp) rfl hb
  have hB : Below w.heap.size w w' := (((Below.refl _ w).alloc (Nat.le_refl _) _).alloc (by simp) _).trans (hB0.mono (by simp; omega))
  clear hb hB0
  go_wp2
  have q0 : (w').cell? ⟨w.heap.size + 1 + 1, 0, none⟩ = some (.int .i64 0) := by simp [go_sem, c0]
  have q1 : ((w').setCell ⟨w.heap.size + 1 + 1, 0, none⟩ (.int .i64 (wrap64 (a0 - b0)))).cell? ⟨w.heap.size + 1 + 1, 1, none⟩ = some (.int .i64 0) := by simp [go_sem, c1]
  have q2 : (((w').setCell ⟨w.heap.size + 1 + 1, 0, none⟩ (.int .i64 (wrap64 (a0 - b0)))).setCell ⟨w.heap.size + 1 + 1, 1, none⟩ (.int .i64 (wrap64 (a1 - b1)))).cell? ⟨w.heap.size + 1 + 1, 2, none⟩ = some (.int .i64 0) := by simp [go_sem, c2]
  have q3 : ((((w').setCell ⟨w.heap.size + 1 + 1, 0, none⟩ (.int .i64 (wrap64 (a0 - b0)))).setCell ⟨w.heap.size + 1 + 1, 1, none⟩ (.int .i64 (wrap64 (a1 - b1)))).setCell ⟨w.heap.size + 1 + 1, 2, none⟩ (.int .i64 (wrap64 (a2 - b2)))).cell? ⟨w.heap.size + 1 + 1, 3, none⟩ = some (.int .i64 0) := by simp [go_sem, c3]
  refine bodyPost_ret (v := .agg #[.int .i64 (wrap64 (a0 - b0)), .int .i64 (wrap64 (a1 - b1)), .int .i64 (wrap64 (a2 - b2)), .int .i64 (wrap64 (a3 - b3))]) (by simp [results, Tryd.results9, go_sem, cell_set q0, cell_set q1, cell_set q2, cell_set q3]) rfl ⟨rfl, ?_⟩
  exact (((hB.setCell (by simp; omega) _).setCell (by simp; omega) _).setCell (by simp; omega) _).setCell (by simp; omega) _

set_option maxRecDepth 100000 in
set_option maxHeartbeats 1000000 in
theorem atMost_0 (a0 a1 a2 a3 b0 b1 b2 b3 : Int) (w : World) (h : b0 < a0) :
    Calls Tryd.prog 11 #[.agg #[.int .i64 a0, .int .i64 a1, .int .i64 a2, .int .i64 a3], .agg #[.int .i64 b0, .int .i64 b1, .int .i64 b2, .int .i64 b3]] w fun e w' =>
      e = .returned (.bool false) ∧ Below w.heap.size w w' := by
  have j0 := ix0
  have j1 := ix1
  have j2 := ix2
  have j3 := ix3
  go_enter Tryd.func11, Tryd.ntmps11
  go_wp2_with (go_at_call 21; refine (parts_any _ _).mono ?_; rintro e w' ⟨rfl, rfl⟩)
  refine wp_loop_rounds 5 ?_
  rw [rounds_succ]; go_wp2
  go_quiet (fail)
  go_wp2
  go_ret
  refine ⟨rfl, ?_⟩
  repeat (first | exact Below.refl _ _ | refine below_drewN ?_ _ | refine Below.drew ?_ | refine Below.alloc ?_ (by simp <;> omega) _)

set_option maxRecDepth 100000 in
set_option maxHeartbeats 1000000 in
theorem atMost_1 (a0 a1 a2 a3 b0 b1 b2 b3 : Int) (w : World) (h0 : a0 ≤ b0) (h : b1 < a1) :
    Calls Tryd.prog 11 #[.agg #[.int .i64 a0, .int .i64 a1, .int .i64 a2, .int .i64 a3], .agg #[.int .i64 b0, .int .i64 b1, .int .i64 b2, .int .i64 b3]] w fun e w' =>
      e = .returned (.bool false) ∧ Below w.heap.size w w' := by
  have j0 := ix0
  have j1 := ix1
  have j2 := ix2
  have j3 := ix3
  go_enter Tryd.func11, Tryd.ntmps11
  go_wp2_with (go_at_call 21; refine (parts_any _ _).mono ?_; rintro e w' ⟨rfl, rfl⟩)
  refine wp_loop_rounds 5 ?_
  rw [rounds_succ]; go_wp2
  go_quiet (fail)
  go_wp2
  rw [rounds_succ]; go_wp2
  go_quiet (fail)
  go_wp2
  go_ret
  refine ⟨rfl, ?_⟩
  repeat (first | exact Below.refl _ _ | refine below_drewN ?_ _ | refine Below.drew ?_ | refine Below.alloc ?_ (by simp <;> omega) _)

set_option maxRecDepth 100000 in
set_option maxHeartbeats 1000000 in
theorem atMost_2 (a0 a1 a2 a3 b0 b1 b2 b3 : Int) (w : World) (h0 : a0 ≤ b0) (h1 : a1 ≤ b1) (h : b2 < a2) :
    Calls Tryd.prog 11 #[.agg #[.int .i64 a0, .int .i64 a1, .int .i64 a2, .int .i64 a3], .agg #[.int .i64 b0, .int .i64 b1, .int .i64 b2, .int .i64 b3]] w fun e w' =>
      e = .returned (.bool false) ∧ Below w.heap.size w w' := by
  have j0 := ix0
  have j1 := ix1
  have j2 := ix2
  have j3 := ix3
  go_enter Tryd.func11, Tryd.ntmps11
  go_wp2_with (go_at_call 21; refine (parts_any _ _).mono ?_; rintro e w' ⟨rfl, rfl⟩)
  refine wp_loop_rounds 5 ?_
  rw [rounds_succ]; go_wp2
  go_quiet (fail)
  go_wp2
  rw [rounds_succ]; go_wp2
  go_quiet (fail)
  go_wp2
  rw [rounds_succ]; go_wp2
  go_quiet (fail)
  go_wp2
  go_ret
  refine ⟨rfl, ?_⟩
  repeat (first | exact Below.refl _ _ | refine below_drewN ?_ _ | refine Below.drew ?_ | refine Below.alloc ?_ (by simp <;> omega) _)

set_option maxRecDepth 100000 in
set_option maxHeartbeats 1000000 in
theorem atMost_3 (a0 a1 a2 a3 b0 b1 b2 b3 : Int) (w : World) (h0 : a0 ≤ b0) (h1 : a1 ≤ b1) (h2 : a2 ≤ b2) (h : b3 < a3) :
    Calls Tryd.prog 11 #[.agg #[.int .i64 a0, .int .i64 a1, .int .i64 a2, .int .i64 a3], .agg #[.int .i64 b0, .int .i64 b1, .int .i64 b2, .int .i64 b3]] w fun e w' =>
      e = .returned (.bool false) ∧ Below w.heap.size w w' := by
  have j0 := ix0
  have j1 := ix1
  have j2 := ix2
  have j3 := ix3
  go_enter Tryd.func11, Tryd.ntmps11
  go_wp2_with (go_at_call 21; refine (parts_any _ _).mono ?_; rintro e w' ⟨rfl, rfl⟩)
  refine wp_loop_rounds 5 ?_
  rw [rounds_succ]; go_wp2
  go_quiet (fail)
  go_wp2
  rw [rounds_succ]; go_wp2
  go_quiet (fail)
  go_wp2
  rw [rounds_succ]; go_wp2
  go_quiet (fail)
  go_wp2
  rw [rounds_succ]; go_wp2
  go_quiet (fail)
  go_wp2
  go_ret
  refine ⟨rfl, ?_⟩
  repeat (first | exact Below.refl _ _ | refine below_drewN ?_ _ | refine Below.drew ?_ | refine Below.alloc ?_ (by simp <;> omega) _)

set_option maxRecDepth 100000 in
set_option maxHeartbeats 1000000 in
theorem atMost_4 (a0 a1 a2 a3 b0 b1 b2 b3 : Int) (w : World) (h0 : a0 ≤ b0) (h1 : a1 ≤ b1) (h2 : a2 ≤ b2) (h3 : a3 ≤ b3) :
    Calls Tryd.prog 11 #[.agg #[.int .i64 a0, .int .i64 a1, .int .i64 a2, .int .i64 a3], .agg #[.int .i64 b0, .int .i64 b1, .int .i64 b2, .int .i64 b3]] w fun e w' =>
      e = .returned (.bool true) ∧ Below w.heap.size w w' := by
  have j0 := ix0
  have j1 := ix1
  have j2 := ix2
  have j3 := ix3
  go_enter Tryd.func11, Tryd.ntmps11
  go_wp2_with (go_at_call 21; refine (parts_any _ _).mono ?_; rintro e w' ⟨rfl, rfl⟩)
  refine wp_loop_rounds 5 ?_
  rw [rounds_succ]; go_wp2
  go_quiet (fail)
  go_wp2
  rw [rounds_succ]; go_wp2
  go_quiet (fail)
  go_wp2
  rw [rounds_succ]; go_wp2
  go_quiet (fail)
  go_wp2
  rw [rounds_succ]; go_wp2
  go_quiet (fail)
  go_wp2
  rw [rounds_succ]; go_wp2
  go_ret
  refine ⟨rfl, ?_⟩
  repeat (first | exact Below.refl _ _ | refine below_drewN ?_ _ | refine Below.drew ?_ | refine Below.alloc ?_ (by simp <;> omega) _)

/-- Each number of the first cost is at most that of the second. -/
def atMostB (a0 a1 a2 a3 b0 b1 b2 b3 : Int) : Bool := decide (a0 ≤ b0 ∧ a1 ≤ b1 ∧ a2 ≤ b2 ∧ a3 ≤ b3)

theorem atMost_any (a0 a1 a2 a3 b0 b1 b2 b3 : Int) (w : World) :
    Calls Tryd.prog 11 #[.agg #[.int .i64 a0, .int .i64 a1, .int .i64 a2, .int .i64 a3], .agg #[.int .i64 b0, .int .i64 b1, .int .i64 b2, .int .i64 b3]] w fun e w' =>
      e = .returned (.bool (atMostB a0 a1 a2 a3 b0 b1 b2 b3)) ∧ Below w.heap.size w w' := by
  by_cases h0 : a0 ≤ b0
  · by_cases h1 : a1 ≤ b1
    · by_cases h2 : a2 ≤ b2
      · by_cases h3 : a3 ≤ b3
        · rw [show atMostB a0 a1 a2 a3 b0 b1 b2 b3 = true by unfold atMostB; rw [decide_eq_true_iff]; exact ⟨h0, h1, h2, h3⟩]
          exact atMost_4 _ _ _ _ _ _ _ _ w h0 h1 h2 h3
        · rw [show atMostB a0 a1 a2 a3 b0 b1 b2 b3 = false by unfold atMostB; rw [decide_eq_false_iff_not]; exact fun h => h3 h.2.2.2]
          exact atMost_3 _ _ _ _ _ _ _ _ w h0 h1 h2 (by omega)
      · rw [show atMostB a0 a1 a2 a3 b0 b1 b2 b3 = false by unfold atMostB; rw [decide_eq_false_iff_not]; exact fun h => h2 h.2.2.1]
        exact atMost_2 _ _ _ _ _ _ _ _ w h0 h1 (by omega)
    · rw [show atMostB a0 a1 a2 a3 b0 b1 b2 b3 = false by unfold atMostB; rw [decide_eq_false_iff_not]; exact fun h => h1 h.2.1]
      exact atMost_1 _ _ _ _ _ _ _ _ w h0 (by omega)
  · rw [show atMostB a0 a1 a2 a3 b0 b1 b2 b3 = false by unfold atMostB; rw [decide_eq_false_iff_not]; exact fun h => h0 h.1]
    exact atMost_0 _ _ _ _ _ _ _ _ w (by omega)

end Go.Proofs.YtdalfkdfpeffdaaDoor
