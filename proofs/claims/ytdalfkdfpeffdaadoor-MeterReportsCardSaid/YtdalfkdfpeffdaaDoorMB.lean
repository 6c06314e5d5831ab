/- Proved here: meter.each adds, and subtracts, number by number, wrapping round; for every two costs and every world. -/
import Derived.Test.YtdalfkdfpeffdaaDoorMA
import Derived.Deep.RegionWith
import Derived.Deep.RegionHeld3
import Derived.Deep.RegionLaw
import Derived.Deep.DeepCutAuto
namespace Go.Proofs.YtdalfkdfpeffdaaDoor
open Go.RowKit

/-- What a round of 'each' finds: the cells of both costs, the pointers to the second's, and the place of the result. -/
structure EachSt (A : Nat) (b0 b1 b2 b3 x0 x1 x2 x3 : Int) (w wr : World) : Prop where
  a0 : wr.cell? ⟨A, 0, none⟩ = some (.int .i64 x0)
  a1 : wr.cell? ⟨A, 1, none⟩ = some (.int .i64 x1)
  a2 : wr.cell? ⟨A, 2, none⟩ = some (.int .i64 x2)
  a3 : wr.cell? ⟨A, 3, none⟩ = some (.int .i64 x3)
  f0 : wr.frozen? ⟨A, 0, none⟩ = false
  f1 : wr.frozen? ⟨A, 1, none⟩ = false
  f2 : wr.frozen? ⟨A, 2, none⟩ = false
  f3 : wr.frozen? ⟨A, 3, none⟩ = false
  b0 : wr.cell? ⟨A + 1, 0, none⟩ = some (.int .i64 b0)
  b1 : wr.cell? ⟨A + 1, 1, none⟩ = some (.int .i64 b1)
  b2 : wr.cell? ⟨A + 1, 2, none⟩ = some (.int .i64 b2)
  b3 : wr.cell? ⟨A + 1, 3, none⟩ = some (.int .i64 b3)
  l0 : wr.cell? ⟨A + 1 + 1 + 1 + 1, 0, none⟩ = some (.pointer (some ⟨A + 1, 0, none⟩))
  l1 : wr.cell? ⟨A + 1 + 1 + 1 + 1, 1, none⟩ = some (.pointer (some ⟨A + 1, 1, none⟩))
  l2 : wr.cell? ⟨A + 1 + 1 + 1 + 1, 2, none⟩ = some (.pointer (some ⟨A + 1, 2, none⟩))
  l3 : wr.cell? ⟨A + 1 + 1 + 1 + 1, 3, none⟩ = some (.pointer (some ⟨A + 1, 3, none⟩))
  r0 : wr.cell? ⟨A + 1 + 1, 0, none⟩ = some (.int .i64 0)
  g0 : wr.frozen? ⟨A + 1 + 1, 0, none⟩ = false
  r1 : wr.cell? ⟨A + 1 + 1, 1, none⟩ = some (.int .i64 0)
  g1 : wr.frozen? ⟨A + 1 + 1, 1, none⟩ = false
  r2 : wr.cell? ⟨A + 1 + 1, 2, none⟩ = some (.int .i64 0)
  g2 : wr.frozen? ⟨A + 1 + 1, 2, none⟩ = false
  r3 : wr.cell? ⟨A + 1 + 1, 3, none⟩ = some (.int .i64 0)
  g3 : wr.frozen? ⟨A + 1 + 1, 3, none⟩ = false
  below : Below A w wr

theorem cell_set {w : World} {a : Addr} {x : Value} (h : w.cell? a = some x) (v : Value) : (w.setCell a v).cell? a = some v := World.cell?_setCell_same' _ _ _ (by rw [h]; rfl)

theorem EachSt.step0 {A : Nat} {b0 b1 b2 b3 x0 x1 x2 x3 : Int} {w wr : World} (h : EachSt A b0 b1 b2 b3 x0 x1 x2 x3 w wr) (y : Int) : EachSt A b0 b1 b2 b3 y x1 x2 x3 w (wr.setCell ⟨A, 0, none⟩ (.int .i64 y)).drew := by
  obtain ⟨ha0, ha1, ha2, ha3, hf0, hf1, hf2, hf3, hb0, hb1, hb2, hb3, hl0, hl1, hl2, hl3, hr0, hg0, hr1, hg1, hr2, hg2, hr3, hg3, hbl⟩ := h
  constructor
  all_goals first | (simp [go_sem, *]; done) | skip
  exact (hbl.setCell (Nat.le_refl _) _).drew

theorem EachSt.step1 {A : Nat} {b0 b1 b2 b3 x0 x1 x2 x3 : Int} {w wr : World} (h : EachSt A b0 b1 b2 b3 x0 x1 x2 x3 w wr) (y : Int) : EachSt A b0 b1 b2 b3 x0 y x2 x3 w (wr.setCell ⟨A, 1, none⟩ (.int .i64 y)).drew := by
  obtain ⟨ha0, ha1, ha2, ha3, hf0, hf1, hf2, hf3, hb0, hb1, hb2, hb3, hl0, hl1, hl2, hl3, hr0, hg0, hr1, hg1, hr2, hg2, hr3, hg3, hbl⟩ := h
  constructor
  all_goals first | (simp [go_sem, *]; done) | skip
  exact (hbl.setCell (Nat.le_refl _) _).drew

theorem EachSt.step2 {A : Nat} {b0 b1 b2 b3 x0 x1 x2 x3 : Int} {w wr : World} (h : EachSt A b0 b1 b2 b3 x0 x1 x2 x3 w wr) (y : Int) : EachSt A b0 b1 b2 b3 x0 x1 y x3 w (wr.setCell ⟨A, 2, none⟩ (.int .i64 y)).drew := by
  obtain ⟨ha0, ha1, ha2, ha3, hf0, hf1, hf2, hf3, hb0, hb1, hb2, hb3, hl0, hl1, hl2, hl3, hr0, hg0, hr1, hg1, hr2, hg2, hr3, hg3, hbl⟩ := h
  constructor
  all_goals first | (simp [go_sem, *]; done) | skip
  exact (hbl.setCell (Nat.le_refl _) _).drew

theorem EachSt.step3 {A : Nat} {b0 b1 b2 b3 x0 x1 x2 x3 : Int} {w wr : World} (h : EachSt A b0 b1 b2 b3 x0 x1 x2 x3 w wr) (y : Int) : EachSt A b0 b1 b2 b3 x0 x1 x2 y w (wr.setCell ⟨A, 3, none⟩ (.int .i64 y)).drew := by
  obtain ⟨ha0, ha1, ha2, ha3, hf0, hf1, hf2, hf3, hb0, hb1, hb2, hb3, hl0, hl1, hl2, hl3, hr0, hg0, hr1, hg1, hr2, hg2, hr3, hg3, hbl⟩ := h
  constructor
  all_goals first | (simp [go_sem, *]; done) | skip
  exact (hbl.setCell (Nat.le_refl _) _).drew

set_option maxRecDepth 100000 in
set_option maxHeartbeats 2000000 in
theorem each_add (a0 a1 a2 a3 b0 b1 b2 b3 : Int) (w : World) :
    Calls Tryd.prog 18 #[.agg #[.int .i64 a0, .int .i64 a1, .int .i64 a2, .int .i64 a3], .agg #[.int .i64 b0, .int .i64 b1, .int .i64 b2, .int .i64 b3], .func (.func 19) #[] #[]] w fun e w' =>
      e = .returned (.agg #[.int .i64 (wrap64 (a0 + b0)), .int .i64 (wrap64 (a1 + b1)), .int .i64 (wrap64 (a2 + b2)), .int .i64 (wrap64 (a3 + b3))]) ∧ Below w.heap.size w w' := by
  have j0 := ix0
  have j1 := ix1
  have j2 := ix2
  have j3 := ix3
  go_enter Tryd.func18, Tryd.ntmps18
  go_wp2_with (go_at_call 21; refine (parts_any _ _).mono ?_; rintro e w' ⟨rfl, rfl⟩)
  go_loopw [12] (fun c wr =>
      (c = .int .i64 0 ∧ EachSt w.heap.size b0 b1 b2 b3 a0 a1 a2 a3 w wr)
      ∨ (c = .int .i64 1 ∧ EachSt w.heap.size b0 b1 b2 b3 (wrap64 (a0 + b0)) a1 a2 a3 w wr)
      ∨ (c = .int .i64 2 ∧ EachSt w.heap.size b0 b1 b2 b3 (wrap64 (a0 + b0)) (wrap64 (a1 + b1)) a2 a3 w wr)
      ∨ (c = .int .i64 3 ∧ EachSt w.heap.size b0 b1 b2 b3 (wrap64 (a0 + b0)) (wrap64 (a1 + b1)) (wrap64 (a2 + b2)) a3 w wr)
      ∨ (c = .int .i64 4 ∧ EachSt w.heap.size b0 b1 b2 b3 (wrap64 (a0 + b0)) (wrap64 (a1 + b1)) (wrap64 (a2 + b2)) (wrap64 (a3 + b3)) w wr)) (fun c _ => 4 - (intOf c).toNat)
  case atStart =>
    refine .inl ⟨rfl, ?_⟩
    constructor
    all_goals first | (simp [go_sem]; done) | skip
    exact (((((((Below.refl _ w).alloc (Nat.le_refl _) _).alloc (by simp) _).alloc (by simp; omega) _).alloc (by simp; omega) _).alloc (by simp; omega) _).alloc (by simp; omega) _).drew.drew
  case round =>
    rcases hrel with ⟨rfl, h⟩ | ⟨rfl, h⟩ | ⟨rfl, h⟩ | ⟨rfl, h⟩ | ⟨rfl, h⟩
    · have H := h
      obtain ⟨ha0, ha1, ha2, ha3, hf0, hf1, hf2, hf3, hb0, hb1, hb2, hb3, hl0, hl1, hl2, hl3, hr0, hg0, hr1, hg1, hr2, hg2, hr3, hg3, hbl⟩ := h
      go_wp2_with fail
      go_region_law ((go_simp; go_at_call 19; refine (add1_any _ _ _).mono ?_; rintro e w' ⟨rfl, rfl⟩))
      all_goals
        go_wp2_with fail
        go_roundw
        case rel => exact (.inr (.inl ⟨rfl, H.step0 _⟩))
        case measure => simp [intOf]
    · have H := h
      obtain ⟨ha0, ha1, ha2, ha3, hf0, hf1, hf2, hf3, hb0, hb1, hb2, hb3, hl0, hl1, hl2, hl3, hr0, hg0, hr1, hg1, hr2, hg2, hr3, hg3, hbl⟩ := h
      go_wp2_with fail
      go_region_law ((go_simp; go_at_call 19; refine (add1_any _ _ _).mono ?_; rintro e w' ⟨rfl, rfl⟩))
      all_goals
        go_wp2_with fail
        go_roundw
        case rel => exact (.inr (.inr (.inl ⟨rfl, H.step1 _⟩)))
        case measure => simp [intOf]
    · have H := h
      obtain ⟨ha0, ha1, ha2, ha3, hf0, hf1, hf2, hf3, hb0, hb1, hb2, hb3, hl0, hl1, hl2, hl3, hr0, hg0, hr1, hg1, hr2, hg2, hr3, hg3, hbl⟩ := h
      go_wp2_with fail
      go_region_law ((go_simp; go_at_call 19; refine (add1_any _ _ _).mono ?_; rintro e w' ⟨rfl, rfl⟩))
      all_goals
        go_wp2_with fail
        go_roundw
        case rel => exact (.inr (.inr (.inr (.inl ⟨rfl, H.step2 _⟩))))
        case measure => simp [intOf]
    · have H := h
      obtain ⟨ha0, ha1, ha2, ha3, hf0, hf1, hf2, hf3, hb0, hb1, hb2, hb3, hl0, hl1, hl2, hl3, hr0, hg0, hr1, hg1, hr2, hg2, hr3, hg3, hbl⟩ := h
      go_wp2_with fail
      go_region_law ((go_simp; go_at_call 19; refine (add1_any _ _ _).mono ?_; rintro e w' ⟨rfl, rfl⟩))
      all_goals
        go_wp2_with fail
        go_roundw
        case rel => exact (.inr (.inr (.inr (.inr ⟨rfl, H.step3 _⟩))))
        case measure => simp [intOf]
    · have H := h
      obtain ⟨ha0, ha1, ha2, ha3, hf0, hf1, hf2, hf3, hb0, hb1, hb2, hb3, hl0, hl1, hl2, hl3, hr0, hg0, hr1, hg1, hr2, hg2, hr3, hg3, hbl⟩ := h
      go_wp2
      have q0 : (wr).cell? ⟨w.heap.size + 1 + 1, 0, none⟩ = some (.int .i64 0) := by simp [go_sem, hr0]
      have q1 : ((wr).setCell ⟨w.heap.size + 1 + 1, 0, none⟩ (.int .i64 (wrap64 (a0 + b0)))).cell? ⟨w.heap.size + 1 + 1, 1, none⟩ = some (.int .i64 0) := by simp [go_sem, hr1]
      have q2 : (((wr).setCell ⟨w.heap.size + 1 + 1, 0, none⟩ (.int .i64 (wrap64 (a0 + b0)))).setCell ⟨w.heap.size + 1 + 1, 1, none⟩ (.int .i64 (wrap64 (a1 + b1)))).cell? ⟨w.heap.size + 1 + 1, 2, none⟩ = some (.int .i64 0) := by simp [go_sem, hr2]
      have q3 : ((((wr).setCell ⟨w.heap.size + 1 + 1, 0, none⟩ (.int .i64 (wrap64 (a0 + b0)))).setCell ⟨w.heap.size + 1 + 1, 1, none⟩ (.int .i64 (wrap64 (a1 + b1)))).setCell ⟨w.heap.size + 1 + 1, 2, none⟩ (.int .i64 (wrap64 (a2 + b2)))).cell? ⟨w.heap.size + 1 + 1, 3, none⟩ = some (.int .i64 0) := by simp [go_sem, hr3]
      refine bodyPost_ret (v := .agg #[.int .i64 (wrap64 (a0 + b0)), .int .i64 (wrap64 (a1 + b1)), .int .i64 (wrap64 (a2 + b2)), .int .i64 (wrap64 (a3 + b3))]) (by simp [results, Tryd.results18, go_sem, cell_set q0, cell_set q1, cell_set q2, cell_set q3]) rfl ⟨rfl, ?_⟩
      exact (((hbl.setCell (by simp; omega) _).setCell (by simp; omega) _).setCell (by simp; omega) _).setCell (by simp; omega) _

set_option maxRecDepth 100000 in
set_option maxHeartbeats 2000000 in
theorem each_sub (a0 a1 a2 a3 b0 b1 b2 b3 : Int) (w : World) :
    Calls Tryd.prog 18 #[.agg #[.int .i64 a0, .int .i64 a1, .int .i64 a2, .int .i64 a3], .agg #[.int .i64 b0, .int .i64 b1, .int .i64 b2, .int .i64 b3], .func (.func 20) #[] #[]] w fun e w' =>
      e = .returned (.agg #[.int .i64 (wrap64 (a0 - b0)), .int .i64 (wrap64 (a1 - b1)), .int .i64 (wrap64 (a2 - b2)), .int .i64 (wrap64 (a3 - b3))]) ∧ Below w.heap.size w w' := by
  have j0 := ix0
  have j1 := ix1
  have j2 := ix2
  have j3 := ix3
  go_enter Tryd.func18, Tryd.ntmps18
  go_wp2_with (go_at_call 21; refine (parts_any _ _).mono ?_; rintro e w' ⟨rfl, rfl⟩)
  go_loopw [12] (fun c wr =>
      (c = .int .i64 0 ∧ EachSt w.heap.size b0 b1 b2 b3 a0 a1 a2 a3 w wr)
      ∨ (c = .int .i64 1 ∧ EachSt w.heap.size b0 b1 b2 b3 (wrap64 (a0 - b0)) a1 a2 a3 w wr)
      ∨ (c = .int .i64 2 ∧ EachSt w.heap.size b0 b1 b2 b3 (wrap64 (a0 - b0)) (wrap64 (a1 - b1)) a2 a3 w wr)
      ∨ (c = .int .i64 3 ∧ EachSt w.heap.size b0 b1 b2 b3 (wrap64 (a0 - b0)) (wrap64 (a1 - b1)) (wrap64 (a2 - b2)) a3 w wr)
      ∨ (c = .int .i64 4 ∧ EachSt w.heap.size b0 b1 b2 b3 (wrap64 (a0 - b0)) (wrap64 (a1 - b1)) (wrap64 (a2 - b2)) (wrap64 (a3 - b3)) w wr)) (fun c _ => 4 - (intOf c).toNat)
  case atStart =>
    refine .inl ⟨rfl, ?_⟩
    constructor
    all_goals first | (simp [go_sem]; done) | skip
    exact (((((((Below.refl _ w).alloc (Nat.le_refl _) _).alloc (by simp) _).alloc (by simp; omega) _).alloc (by simp; omega) _).alloc (by simp; omega) _).alloc (by simp; omega) _).drew.drew
  case round =>
    rcases hrel with ⟨rfl, h⟩ | ⟨rfl, h⟩ | ⟨rfl, h⟩ | ⟨rfl, h⟩ | ⟨rfl, h⟩
    · have H := h
      obtain ⟨ha0, ha1, ha2, ha3, hf0, hf1, hf2, hf3, hb0, hb1, hb2, hb3, hl0, hl1, hl2, hl3, hr0, hg0, hr1, hg1, hr2, hg2, hr3, hg3, hbl⟩ := h
      go_wp2_with fail
      go_region_law ((go_simp; go_at_call 20; refine (sub1_any _ _ _).mono ?_; rintro e w' ⟨rfl, rfl⟩))
      all_goals
        go_wp2_with fail
        go_roundw
        case rel => exact (.inr (.inl ⟨rfl, H.step0 _⟩))
        case measure => simp [intOf]
    · have H := h
      obtain ⟨ha0, ha1, ha2, ha3, hf0, hf1, hf2, hf3, hb0, hb1, hb2, hb3, hl0, hl1, hl2, hl3, hr0, hg0, hr1, hg1, hr2, hg2, hr3, hg3, hbl⟩ := h
      go_wp2_with fail
      go_region_law ((go_simp; go_at_call 20; refine (sub1_any _ _ _).mono ?_; rintro e w' ⟨rfl, rfl⟩))
      all_goals
        go_wp2_with fail
        go_roundw
        case rel => exact (.inr (.inr (.inl ⟨rfl, H.step1 _⟩)))
        case measure => simp [intOf]
    · have H := h
      obtain ⟨ha0, ha1, ha2, ha3, hf0, hf1, hf2, hf3, hb0, hb1, hb2, hb3, hl0, hl1, hl2, hl3, hr0, hg0, hr1, hg1, hr2, hg2, hr3, hg3, hbl⟩ := h
      go_wp2_with fail
      go_region_law ((go_simp; go_at_call 20; refine (sub1_any _ _ _).mono ?_; rintro e w' ⟨rfl, rfl⟩))
      all_goals
        go_wp2_with fail
        go_roundw
        case rel => exact (.inr (.inr (.inr (.inl ⟨rfl, H.step2 _⟩))))
        case measure => simp [intOf]
    · have H := h
      obtain ⟨ha0, ha1, ha2, ha3, hf0, hf1, hf2, hf3, hb0, hb1, hb2, hb3, hl0, hl1, hl2, hl3, hr0, hg0, hr1, hg1, hr2, hg2, hr3, hg3, hbl⟩ := h
      go_wp2_with fail
      go_region_law ((go_simp; go_at_call 20; refine (sub1_any _ _ _).mono ?_; rintro e w' ⟨rfl, rfl⟩))
      all_goals
        go_wp2_with fail
        go_roundw
        case rel => exact (.inr (.inr (.inr (.inr ⟨rfl, H.step3 _⟩))))
        case measure => simp [intOf]
    · have H := h
      obtain ⟨ha0, ha1, ha2, ha3, hf0, hf1, hf2, hf3, hb0, hb1, hb2, hb3, hl0, hl1, hl2, hl3, hr0, hg0, hr1, hg1, hr2, hg2, hr3, hg3, hbl⟩ := h
      go_wp2
      have q0 : (wr).cell? ⟨w.heap.size + 1 + 1, 0, none⟩ = some (.int .i64 0) := by simp [go_sem, hr0]
      have q1 : ((wr).setCell ⟨w.heap.size + 1 + 1, 0, none⟩ (.int .i64 (wrap64 (a0 - b0)))).cell? ⟨w.heap.size + 1 + 1, 1, none⟩ = some (.int .i64 0) := by simp [go_sem, hr1]
      have q2 : (((wr).setCell ⟨w.heap.size + 1 + 1, 0, none⟩ (.int .i64 (wrap64 (a0 - b0)))).setCell ⟨w.heap.size + 1 + 1, 1, none⟩ (.int .i64 (wrap64 (a1 - b1)))).cell? ⟨w.heap.size + 1 + 1, 2, none⟩ = some (.int .i64 0) := by simp [go_sem, hr2]
      have q3 : ((((wr).setCell ⟨w.heap.size + 1 + 1, 0, none⟩ (.int .i64 (wrap64 (a0 - b0)))).setCell ⟨w.heap.size + 1 + 1, 1, none⟩ (.int .i64 (wrap64 (a1 - b1)))).setCell ⟨w.heap.size + 1 + 1, 2, none⟩ (.int .i64 (wrap64 (a2 - b2)))).cell? ⟨w.heap.size + 1 + 1, 3, none⟩ = some (.int .i64 0) := by simp [go_sem, hr3]
      refine bodyPost_ret (v := .agg #[.int .i64 (wrap64 (a0 - b0)), .int .i64 (wrap64 (a1 - b1)), .int .i64 (wrap64 (a2 - b2)), .int .i64 (wrap64 (a3 - b3))]) (by simp [results, Tryd.results18, go_sem, cell_set q0, cell_set q1, cell_set q2, cell_set q3]) rfl ⟨rfl, ?_⟩
      exact (((hbl.setCell (by simp; omega) _).setCell (by simp; omega) _).setCell (by simp; omega) _).setCell (by simp; omega) _

end Go.Proofs.YtdalfkdfpeffdaaDoor
