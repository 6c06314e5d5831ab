/- Proved here: the law on sums returns true; for every twelve numbers and every byte, where the library's tables stand (Env). -/
import Derived.Test.YtdalfkdfpeffdaaDoorMS0
namespace Go.Proofs.YtdalfkdfpeffdaaDoor
open Go.RowKit

set_option maxRecDepth 100000 in
set_option maxHeartbeats 40000000 in
theorem sums_any (x0 x1 x2 x3 x4 x5 x6 x7 x8 x9 xa xb n : Int) (hn0 : 0 ≤ n) (hn1 : n < 256) (w : World) (he : Env w) :
    Calls Tryd.prog 3 #[.agg #[.int .i64 x0, .int .i64 x1, .int .i64 x2, .int .i64 x3, .int .i64 x4, .int .i64 x5, .int .i64 x6, .int .i64 x7, .int .i64 x8, .int .i64 x9, .int .i64 xa, .int .i64 xb], .int .u8 n] w fun e w' => e = .returned (.bool true) ∧ Below w.heap.size w w' := by
  have H0 := Lib.hid (XSt.start (x0 := .int .i64 x0) (x1 := .int .i64 x1) (x2 := .int .i64 x2) (x3 := .int .i64 x3) (x4 := .int .i64 x4) (x5 := .int .i64 x5) (x6 := .int .i64 x6) (x7 := .int .i64 x7) (x8 := .int .i64 x8) (x9 := .int .i64 x9) (xa := .int .i64 xa) (xb := .int .i64 xb) he 23)
  clear he
  go_enter Tryd.func3, Tryd.ntmps3
  go_wp2_with (go_at_call 6; fail)
  refine (examples_any _ H0.out.env).mono ?_
  rintro e w1 ⟨rfl, hb1⟩
  have H1 := Lib.hid (H0.out.next hb1)
  clear hb1 H0
  go_wp2_with fail
  refine wp_region_inv (fun D a w' => ∃ t6 t7 t8 t14 t15 t16 t17 t18 t19 t20 t21 t22 : Value, a = ({ tmps := #[.agg #[.int .i64 x0, .int .i64 x1, .int .i64 x2, .int .i64 x3, .int .i64 x4, .int .i64 x5, .int .i64 x6, .int .i64 x7, .int .i64 x8, .int .i64 x9, .int .i64 xa, .int .i64 xb], .int .u8 n, .pointer (some ⟨w.heap.size, 0, none⟩), undef, .bool false, .bool true, t6, t7, t8, undef, undef, .bool true, .bool true, .bool false, t14, t15, t16, t17, t18, t19, t20, t21, t22, undef, undef, undef, undef, undef, undef, undef, undef, undef, undef, undef, undef, undef, undef, undef, undef, undef, undef, undef, undef, undef, undef, undef, undef, undef, undef, undef, undef, undef, undef, undef, undef, undef, undef, undef, undef, undef, undef, undef, undef, undef, undef, undef, undef, undef, undef, undef, undef, undef, undef, undef, undef, undef, undef, undef, undef, undef, undef, undef, undef, undef, undef, undef, undef, undef, undef, undef, undef, undef, undef, undef, undef, undef, undef, undef, undef, undef, undef, undef, undef, undef, undef, undef, undef, undef, undef, undef, undef, undef, undef, undef, undef, undef, undef, undef, undef, undef, undef, undef, undef, undef, undef, undef, undef, undef, undef, undef, undef, undef, undef, undef, undef, undef, undef, undef, undef, undef, undef], defers := [] } : Act) ∧ XSt (.int .i64 x0) (.int .i64 x1) (.int .i64 x2) (.int .i64 x3) (.int .i64 x4) (.int .i64 x5) (.int .i64 x6) (.int .i64 x7) (.int .i64 x8) (.int .i64 x9) (.int .i64 xa) (.int .i64 xb) w w' ∧ Thread (D 0) (D 1) (D 2) (D 9) (D 12) w w' 0 x0 x1 x2 x3 t14 t15 t16 t6 ∧ Thread (D 3) (D 4) (D 5) (D 10) (D 13) w w' 4 x4 x5 x6 x7 t17 t18 t19 t7 ∧ Thread (D 6) (D 7) (D 8) (D 11) (D 14) w w' 8 x8 x9 xa xb t20 t21 t22 t8 ∧ (D 9 = true → D 10 = true → t6 ≠ t7) ∧ (D 9 = true → D 11 = true → t6 ≠ t8) ∧ (D 10 = true → D 11 = true → t7 ≠ t8)) (by kernel_rfl) ?_ ?_ ?_ ?_
  · exact ⟨undef, undef, undef, undef, undef, undef, undef, undef, undef, undef, undef, undef, rfl, H1.out.drew, ⟨(fun e => by cases e), (fun e => by cases e), (fun e => by cases e), (fun e => by cases e)⟩, ⟨(fun e => by cases e), (fun e => by cases e), (fun e => by cases e), (fun e => by cases e)⟩, ⟨(fun e => by cases e), (fun e => by cases e), (fun e => by cases e), (fun e => by cases e)⟩, (fun e => by cases e), (fun e => by cases e), (fun e => by cases e)⟩
  · rintro D a w' i o hi hD he ⟨t6, t7, t8, t14, t15, t16, t17, t18, t19, t20, t21, t22, rfl, hst, T1, T2, T3, d12, d13, d23⟩ K hK
    have hi15 : i < 15 := by
      refine Decidable.byContradiction fun h => ?_
      rw [Array.getElem?_eq_none (by simp; omega)] at hi
      cases hi
    rcases (by omega : i = 0 ∨ i = 1 ∨ i = 2 ∨ i = 3 ∨ i = 4 ∨ i = 5 ∨ i = 6 ∨ i = 7 ∨ i = 8 ∨ i = 9 ∨ i = 10 ∨ i = 11 ∨ i = 12 ∨ i = 13 ∨ i = 14) with rfl | rfl | rfl | rfl | rfl | rfl | rfl | rfl | rfl | rfl | rfl | rfl | rfl | rfl | rfl <;> cases hi <;> refine wpOp_plain rfl rfl ?_
    · go_simp
      exact hK _ _ ⟨_, _, _, _, _, _, _, _, _, _, _, _, rfl, hst, T1.idx, T2, T3, d12, d13, d23⟩
    · have e1 := T1.i (he ⟨0, .data⟩ (by simp) rfl)
      subst e1
      have c0 := hst.c0
      have c1 := hst.c1
      have c2 := hst.c2
      have c3 := hst.c3
      go_simp
      exact hK _ _ ⟨_, _, _, _, _, _, _, _, _, _, _, _, rfl, hst, T1.load, T2, T3, d12, d13, d23⟩
    · have e1 := T1.l (he ⟨1, .data⟩ (by simp) rfl)
      subst e1
      go_simp
      go_at_call 7
      refine (lawplain_any x0 x1 x2 x3 _).mono ?_
      rintro e w2 ⟨⟨c, hc, rfl⟩, hb2⟩
      exact hK _ _ ⟨_, _, _, _, _, _, _, _, _, _, _, _, rfl, hst.next hb2, (T1.next hb2).call hc, T2.next hb2, T3.next hb2, d12, d13, d23⟩
    · go_simp
      exact hK _ _ ⟨_, _, _, _, _, _, _, _, _, _, _, _, rfl, hst, T1, T2.idx, T3, d12, d13, d23⟩
    · have e1 := T2.i (he ⟨3, .data⟩ (by simp) rfl)
      subst e1
      have c4 := hst.c4
      have c5 := hst.c5
      have c6 := hst.c6
      have c7 := hst.c7
      go_simp
      exact hK _ _ ⟨_, _, _, _, _, _, _, _, _, _, _, _, rfl, hst, T1, T2.load, T3, d12, d13, d23⟩
    · have e1 := T2.l (he ⟨4, .data⟩ (by simp) rfl)
      subst e1
      go_simp
      go_at_call 7
      refine (lawplain_any x4 x5 x6 x7 _).mono ?_
      rintro e w2 ⟨⟨c, hc, rfl⟩, hb2⟩
      exact hK _ _ ⟨_, _, _, _, _, _, _, _, _, _, _, _, rfl, hst.next hb2, T1.next hb2, (T2.next hb2).call hc, T3.next hb2, d12, d13, d23⟩
    · go_simp
      exact hK _ _ ⟨_, _, _, _, _, _, _, _, _, _, _, _, rfl, hst, T1, T2, T3.idx, d12, d13, d23⟩
    · have e1 := T3.i (he ⟨6, .data⟩ (by simp) rfl)
      subst e1
      have c8 := hst.c8
      have c9 := hst.c9
      have ca := hst.ca
      have cb := hst.cb
      go_simp
      exact hK _ _ ⟨_, _, _, _, _, _, _, _, _, _, _, _, rfl, hst, T1, T2, T3.load, d12, d13, d23⟩
    · have e1 := T3.l (he ⟨7, .data⟩ (by simp) rfl)
      subst e1
      go_simp
      go_at_call 7
      refine (lawplain_any x8 x9 xa xb _).mono ?_
      rintro e w2 ⟨⟨c, hc, rfl⟩, hb2⟩
      exact hK _ _ ⟨_, _, _, _, _, _, _, _, _, _, _, _, rfl, hst.next hb2, T1.next hb2, T2.next hb2, (T3.next hb2).call hc, d12, d13, d23⟩
    · go_simp
      exact hK _ _ ⟨_, _, _, _, _, _, _, _, _, _, _, _, rfl, hst.next ((Below.refl _ _).alloc (Nat.le_refl _) _), T1.alloc hst.size, T2.next ((Below.refl _ _).alloc (Nat.le_refl _) _), T3.next ((Below.refl _ _).alloc (Nat.le_refl _) _), fun _ e2 => (T2.fresh e2).symm, fun _ e2 => (T3.fresh e2).symm, d23⟩
    · go_simp
      exact hK _ _ ⟨_, _, _, _, _, _, _, _, _, _, _, _, rfl, hst.next ((Below.refl _ _).alloc (Nat.le_refl _) _), T1.next ((Below.refl _ _).alloc (Nat.le_refl _) _), T2.alloc hst.size, T3.next ((Below.refl _ _).alloc (Nat.le_refl _) _), fun e1 _ => T1.fresh e1, d13, fun _ e2 => (T3.fresh e2).symm⟩
    · go_simp
      exact hK _ _ ⟨_, _, _, _, _, _, _, _, _, _, _, _, rfl, hst.next ((Below.refl _ _).alloc (Nat.le_refl _) _), T1.next ((Below.refl _ _).alloc (Nat.le_refl _) _), T2.next ((Below.refl _ _).alloc (Nat.le_refl _) _), T3.alloc hst.size, d12, fun e1 _ => T1.fresh e1, fun e1 _ => T2.fresh e1⟩
    · have e9 := he ⟨9, .data⟩ (by simp) rfl
      obtain ⟨m, c0, rfl, hx, -⟩ := T1.a e9
      obtain ⟨d, hd, rfl⟩ := T1.c (he ⟨2, .data⟩ (by simp) rfl)
      have b0 := hx.c0
      have b1 := hx.c1
      have b2 := hx.c2
      have b3 := hx.c3
      have g0 := hx.f0
      have g1 := hx.f1
      have g2 := hx.f2
      have g3 := hx.f3
      unfold C4.val
      go_simp
      exact hK _ _ ⟨_, _, _, _, _, _, _, _, _, _, _, _, rfl, hst.put hx.lo d, T1.put hx hd, T2.other (fun e => (d12 e9 e).symm), T3.other (fun e => (d13 e9 e).symm), d12, d13, d23⟩
    · have e9 := he ⟨10, .data⟩ (by simp) rfl
      obtain ⟨m, c0, rfl, hx, -⟩ := T2.a e9
      obtain ⟨d, hd, rfl⟩ := T2.c (he ⟨5, .data⟩ (by simp) rfl)
      have b0 := hx.c0
      have b1 := hx.c1
      have b2 := hx.c2
      have b3 := hx.c3
      have g0 := hx.f0
      have g1 := hx.f1
      have g2 := hx.f2
      have g3 := hx.f3
      unfold C4.val
      go_simp
      exact hK _ _ ⟨_, _, _, _, _, _, _, _, _, _, _, _, rfl, hst.put hx.lo d, T1.other (fun e => d12 e e9), T2.put hx hd, T3.other (fun e => (d23 e9 e).symm), d12, d13, d23⟩
    · have e9 := he ⟨11, .data⟩ (by simp) rfl
      obtain ⟨m, c0, rfl, hx, -⟩ := T3.a e9
      obtain ⟨d, hd, rfl⟩ := T3.c (he ⟨8, .data⟩ (by simp) rfl)
      have b0 := hx.c0
      have b1 := hx.c1
      have b2 := hx.c2
      have b3 := hx.c3
      have g0 := hx.f0
      have g1 := hx.f1
      have g2 := hx.f2
      have g3 := hx.f3
      unfold C4.val
      go_simp
      exact hK _ _ ⟨_, _, _, _, _, _, _, _, _, _, _, _, rfl, hst.put hx.lo d, T1.other (fun e => d13 e e9), T2.other (fun e => d23 e e9), T3.put hx hd, d12, d13, d23⟩
  · exact back_of (by kernel_rfl)
  · rintro D a w' hall ⟨t6, t7, t8, t14, t15, t16, t17, t18, t19, t20, t21, t22, rfl, hst, T1, T2, T3, d12, d13, d23⟩
    obtain ⟨na, a, rfl, hxa, ha⟩ := T1.a (hall 9 (by decide))
    obtain ⟨nb, b, rfl, hxb, hb⟩ := T2.a (hall 10 (by decide))
    obtain ⟨nc, c, rfl, hxc, hc⟩ := T3.a (hall 11 (by decide))
    replace ha := ha (hall 12 (by decide))
    replace hb := hb (hall 13 (by decide))
    replace hc := hc (hall 14 (by decide))
    have K0 := Lib.hid (MSt.mk hxa hxb hxc hst.below hst.env0 hst.size)
    clear hxa hxb hxc T1 T2 T3 d12 d13 d23 hall hst H1
    go_wp2_with fail
    obtain ⟨S, hS⟩ : ∃ S, a.add b = S := ⟨_, rfl⟩
    obtain ⟨T, hT⟩ : ∃ T, S.add c = T := ⟨_, rfl⟩
    obtain ⟨U, hU⟩ : ∃ U, b.add c = U := ⟨_, rfl⟩
    have L1 := Lib.hid (addC a b S hS)
    have L2 := Lib.hid (addC b a S (by rw [← hS, C4.add_comm]))
    have L3 := Lib.hid (addC S c T hT)
    have L4 := Lib.hid (addC b c U hU)
    have L5 := Lib.hid (addC a U T (by rw [← hU, ← hT, ← hS, C4.add_assoc]))
    have L6 := Lib.hid (subC S b a (by rw [← hS, C4.add_sub a b ha]))
    have L7 := Lib.hid (addC0 a a (C4.add_zero a ha))
    have HS := Lib.hid hS
    have HT := Lib.hid hT
    have HU := Lib.hid hU
    clear hS hT hU
    have K := Lib.hid K0.out.drew
    go_region_held3 (fun w' => w'.cell? ⟨na, 0, none⟩ = some (.int .i64 a.i) ∧ w'.cell? ⟨na, 1, none⟩ = some (.int .i64 a.s) ∧ w'.cell? ⟨na, 2, none⟩ = some (.int .i64 a.m) ∧ w'.cell? ⟨na, 3, none⟩ = some (.int .i64 a.k) ∧ w'.cell? ⟨nb, 0, none⟩ = some (.int .i64 b.i) ∧ w'.cell? ⟨nb, 1, none⟩ = some (.int .i64 b.s) ∧ w'.cell? ⟨nb, 2, none⟩ = some (.int .i64 b.m) ∧ w'.cell? ⟨nb, 3, none⟩ = some (.int .i64 b.k) ∧ w'.cell? ⟨nc, 0, none⟩ = some (.int .i64 c.i) ∧ w'.cell? ⟨nc, 1, none⟩ = some (.int .i64 c.s) ∧ w'.cell? ⟨nc, 2, none⟩ = some (.int .i64 c.m) ∧ w'.cell? ⟨nc, 3, none⟩ = some (.int .i64 c.k)) (exact K.out.cells)
      (first
        | (go_at_call 8; (with_reducible refine (L1.out _).mono ?_); rintro e w2 ⟨rfl, hb2⟩; replace K := Lib.hid (K.out.next hb2); clear hb2)
        | (go_at_call 8; (with_reducible refine (L2.out _).mono ?_); rintro e w2 ⟨rfl, hb2⟩; replace K := Lib.hid (K.out.next hb2); clear hb2)
        | (go_at_call 8; (with_reducible refine (L3.out _).mono ?_); rintro e w2 ⟨rfl, hb2⟩; replace K := Lib.hid (K.out.next hb2); clear hb2)
        | (go_at_call 8; (with_reducible refine (L4.out _).mono ?_); rintro e w2 ⟨rfl, hb2⟩; replace K := Lib.hid (K.out.next hb2); clear hb2)
        | (go_at_call 8; (with_reducible refine (L5.out _).mono ?_); rintro e w2 ⟨rfl, hb2⟩; replace K := Lib.hid (K.out.next hb2); clear hb2)
        | (go_at_call 9; (with_reducible refine (L6.out _).mono ?_); rintro e w2 ⟨rfl, hb2⟩; replace K := Lib.hid (K.out.next hb2); clear hb2)
        | (go_at_call 8; (with_reducible refine (L7.out _).mono ?_); rintro e w2 ⟨rfl, hb2⟩; replace K := Lib.hid (K.out.next hb2); clear hb2))
    clear L1 L2 L3 L4 L5 L6 L7 HS HT HU
    obtain ⟨a0, a1, a2, a3, b0, b1, b2, b3, c0, c1, c2, c3⟩ := K.out.cells
    go_wp2_with fail
    have Z0 := Lib.hid (LSt.start w2 a b c a)
    have KB := Lib.hid (K.out.next ((Below.refl _ w2).alloc (Nat.le_refl _) (.cells #[.int .i64 a.i, .int .i64 a.s, .int .i64 a.m, .int .i64 a.k, .int .i64 b.i, .int .i64 b.s, .int .i64 b.m, .int .i64 b.k, .int .i64 c.i, .int .i64 c.s, .int .i64 c.m, .int .i64 c.k, .int .i64 a.i, .int .i64 a.s, .int .i64 a.m, .int .i64 a.k] 26)))
    generalize hW : w2.alloc (.cells #[.int .i64 a.i, .int .i64 a.s, .int .i64 a.m, .int .i64 a.k, .int .i64 b.i, .int .i64 b.s, .int .i64 b.m, .int .i64 b.k, .int .i64 c.i, .int .i64 c.s, .int .i64 c.m, .int .i64 c.k, .int .i64 a.i, .int .i64 a.s, .int .i64 a.m, .int .i64 a.k] 26) = wr at Z0 KB ⊢
    clear hW a0 a1 a2 a3 b0 b1 b2 b3 c0 c1 c2 c3 K
    generalize w2.heap.size = B at Z0 ⊢
    have hpl : ∀ x ∈ [a, b, c, a], x.plainC := by
      intro x hx
      simp at hx
      rcases hx with rfl | rfl | rfl | rfl <;> assumption
    have HP := Lib.hid (sumC_parts [a, b, c, a] hpl)
    clear hpl
    obtain ⟨q, hq⟩ : ∃ q, n % 5 = q := ⟨_, rfl⟩
    rw [hq]
    have hq5 : q = 0 ∨ q = 1 ∨ q = 2 ∨ q = 3 ∨ q = 4 := by omega
    clear hq
    go_cut [83] (fun v wx => v = .bool false ∧ MSt w na nb nc a b c wx)
    case first =>
      rcases hq5 with rfl | rfl | rfl | rfl | rfl
      · obtain ⟨V1, hV1⟩ : ∃ V1, sumC ([a, b, c, a].take 0) = V1 := ⟨_, rfl⟩
        obtain ⟨V2, hV2⟩ : ∃ V2, sumC ([a, b, c, a].drop 0) = V2 := ⟨_, rfl⟩
        obtain ⟨V, hV⟩ : ∃ V, sumC [a, b, c, a] = V := ⟨_, rfl⟩
        have M1 := Lib.hid (fun w' (h : LSt B [a, b, c, a] w') => sumHead B 4 4 [a, b, c, a] V w' hV (by simp) (by simp) h)
        have M2 := Lib.hid (fun w' (h : LSt B [a, b, c, a] w') => sumHead B 0 4 [a, b, c, a] V1 w' hV1 (by simp) (by simp) h)
        have M3 := Lib.hid (fun w' (h : LSt B [a, b, c, a] w') => sumTail B 0 4 0 4 [a, b, c, a] V2 w' hV2 rfl rfl (by simp) h)
        have M4 := Lib.hid (addC V1 V2 V (by rw [← hV1, ← hV2, ← hV]; exact HP.out 0))
        have M5 := Lib.hid (addC V1 V V (by rw [← hV1, ← hV]; exact HP.out 0))
        clear hV hV1 hV2
        have K := Lib.hid KB.out.drew
        have Z := Lib.hid (Z0.out.next (Below.refl _ wr).drew)
        go_region_held3 (fun _ => True) (exact trivial)
          (first
            | (go_at_call 10; (with_reducible refine (M1.out _ Z.out).mono ?_); rintro e w3 ⟨rfl, hb3⟩; replace K := Lib.hid (K.out.next hb3); replace Z := Lib.hid (Z.out.next hb3); clear hb3)
            | (go_at_call 10; (with_reducible refine (M2.out _ Z.out).mono ?_); rintro e w3 ⟨rfl, hb3⟩; replace K := Lib.hid (K.out.next hb3); replace Z := Lib.hid (Z.out.next hb3); clear hb3)
            | (go_at_call 10; (with_reducible refine (M3.out _ Z.out).mono ?_); rintro e w3 ⟨rfl, hb3⟩; replace K := Lib.hid (K.out.next hb3); replace Z := Lib.hid (Z.out.next hb3); clear hb3)
            | (go_at_call 8; (with_reducible refine (M5.out _).mono ?_); rintro e w3 ⟨rfl, hb3⟩; replace K := Lib.hid (K.out.next hb3); replace Z := Lib.hid (Z.out.next hb3); clear hb3)
            | (go_at_call 10; (with_reducible refine (sumEmpty _ _ _).mono ?_); rintro e w3 ⟨rfl, hb3⟩; replace K := Lib.hid (K.out.next hb3); replace Z := Lib.hid (Z.out.next hb3); clear hb3)
            | (go_at_call 10; (with_reducible refine (sumNil _).mono ?_); rintro e w3 ⟨rfl, hb3⟩; replace K := Lib.hid (K.out.next hb3); replace Z := Lib.hid (Z.out.next hb3); clear hb3)
            | (go_at_call 8; (with_reducible refine (M4.out _).mono ?_); rintro e w3 ⟨rfl, hb3⟩; replace K := Lib.hid (K.out.next hb3); replace Z := Lib.hid (Z.out.next hb3); clear hb3))
        all_goals (go_wp2_with fail; go_meet; exact ⟨rfl, K.out⟩)
      · obtain ⟨V1, hV1⟩ : ∃ V1, sumC ([a, b, c, a].take 1) = V1 := ⟨_, rfl⟩
        obtain ⟨V2, hV2⟩ : ∃ V2, sumC ([a, b, c, a].drop 1) = V2 := ⟨_, rfl⟩
        obtain ⟨V, hV⟩ : ∃ V, sumC [a, b, c, a] = V := ⟨_, rfl⟩
        have M1 := Lib.hid (fun w' (h : LSt B [a, b, c, a] w') => sumHead B 4 4 [a, b, c, a] V w' hV (by simp) (by simp) h)
        have M2 := Lib.hid (fun w' (h : LSt B [a, b, c, a] w') => sumHead B 1 4 [a, b, c, a] V1 w' hV1 (by simp) (by simp) h)
        have M3 := Lib.hid (fun w' (h : LSt B [a, b, c, a] w') => sumTail B 4 3 1 3 [a, b, c, a] V2 w' hV2 rfl rfl (by simp) h)
        have M4 := Lib.hid (addC V1 V2 V (by rw [← hV1, ← hV2, ← hV]; exact HP.out 1))
        clear hV hV1 hV2
        have K := Lib.hid KB.out.drew
        have Z := Lib.hid (Z0.out.next (Below.refl _ wr).drew)
        go_region_held3 (fun _ => True) (exact trivial)
          (first
            | (go_at_call 10; (with_reducible refine (M1.out _ Z.out).mono ?_); rintro e w3 ⟨rfl, hb3⟩; replace K := Lib.hid (K.out.next hb3); replace Z := Lib.hid (Z.out.next hb3); clear hb3)
            | (go_at_call 10; (with_reducible refine (M2.out _ Z.out).mono ?_); rintro e w3 ⟨rfl, hb3⟩; replace K := Lib.hid (K.out.next hb3); replace Z := Lib.hid (Z.out.next hb3); clear hb3)
            | (go_at_call 10; (with_reducible refine (M3.out _ Z.out).mono ?_); rintro e w3 ⟨rfl, hb3⟩; replace K := Lib.hid (K.out.next hb3); replace Z := Lib.hid (Z.out.next hb3); clear hb3)
            | (go_at_call 10; (with_reducible refine (sumNil _).mono ?_); rintro e w3 ⟨rfl, hb3⟩; replace K := Lib.hid (K.out.next hb3); replace Z := Lib.hid (Z.out.next hb3); clear hb3)
            | (go_at_call 8; (with_reducible refine (M4.out _).mono ?_); rintro e w3 ⟨rfl, hb3⟩; replace K := Lib.hid (K.out.next hb3); replace Z := Lib.hid (Z.out.next hb3); clear hb3))
        all_goals (go_wp2_with fail; go_meet; exact ⟨rfl, K.out⟩)
      · obtain ⟨V1, hV1⟩ : ∃ V1, sumC ([a, b, c, a].take 2) = V1 := ⟨_, rfl⟩
        obtain ⟨V2, hV2⟩ : ∃ V2, sumC ([a, b, c, a].drop 2) = V2 := ⟨_, rfl⟩
        obtain ⟨V, hV⟩ : ∃ V, sumC [a, b, c, a] = V := ⟨_, rfl⟩
        have M1 := Lib.hid (fun w' (h : LSt B [a, b, c, a] w') => sumHead B 4 4 [a, b, c, a] V w' hV (by simp) (by simp) h)
        have M2 := Lib.hid (fun w' (h : LSt B [a, b, c, a] w') => sumHead B 2 4 [a, b, c, a] V1 w' hV1 (by simp) (by simp) h)
        have M3 := Lib.hid (fun w' (h : LSt B [a, b, c, a] w') => sumTail B 8 2 2 2 [a, b, c, a] V2 w' hV2 rfl rfl (by simp) h)
        have M4 := Lib.hid (addC V1 V2 V (by rw [← hV1, ← hV2, ← hV]; exact HP.out 2))
        clear hV hV1 hV2
        have K := Lib.hid KB.out.drew
        have Z := Lib.hid (Z0.out.next (Below.refl _ wr).drew)
        go_region_held3 (fun _ => True) (exact trivial)
          (first
            | (go_at_call 10; (with_reducible refine (M1.out _ Z.out).mono ?_); rintro e w3 ⟨rfl, hb3⟩; replace K := Lib.hid (K.out.next hb3); replace Z := Lib.hid (Z.out.next hb3); clear hb3)
            | (go_at_call 10; (with_reducible refine (M2.out _ Z.out).mono ?_); rintro e w3 ⟨rfl, hb3⟩; replace K := Lib.hid (K.out.next hb3); replace Z := Lib.hid (Z.out.next hb3); clear hb3)
            | (go_at_call 10; (with_reducible refine (M3.out _ Z.out).mono ?_); rintro e w3 ⟨rfl, hb3⟩; replace K := Lib.hid (K.out.next hb3); replace Z := Lib.hid (Z.out.next hb3); clear hb3)
            | (go_at_call 10; (with_reducible refine (sumNil _).mono ?_); rintro e w3 ⟨rfl, hb3⟩; replace K := Lib.hid (K.out.next hb3); replace Z := Lib.hid (Z.out.next hb3); clear hb3)
            | (go_at_call 8; (with_reducible refine (M4.out _).mono ?_); rintro e w3 ⟨rfl, hb3⟩; replace K := Lib.hid (K.out.next hb3); replace Z := Lib.hid (Z.out.next hb3); clear hb3))
        all_goals (go_wp2_with fail; go_meet; exact ⟨rfl, K.out⟩)
      · obtain ⟨V1, hV1⟩ : ∃ V1, sumC ([a, b, c, a].take 3) = V1 := ⟨_, rfl⟩
        obtain ⟨V2, hV2⟩ : ∃ V2, sumC ([a, b, c, a].drop 3) = V2 := ⟨_, rfl⟩
        obtain ⟨V, hV⟩ : ∃ V, sumC [a, b, c, a] = V := ⟨_, rfl⟩
        have M1 := Lib.hid (fun w' (h : LSt B [a, b, c, a] w') => sumHead B 4 4 [a, b, c, a] V w' hV (by simp) (by simp) h)
        have M2 := Lib.hid (fun w' (h : LSt B [a, b, c, a] w') => sumHead B 3 4 [a, b, c, a] V1 w' hV1 (by simp) (by simp) h)
        have M3 := Lib.hid (fun w' (h : LSt B [a, b, c, a] w') => sumTail B 12 1 3 1 [a, b, c, a] V2 w' hV2 rfl rfl (by simp) h)
        have M4 := Lib.hid (addC V1 V2 V (by rw [← hV1, ← hV2, ← hV]; exact HP.out 3))
        clear hV hV1 hV2
        have K := Lib.hid KB.out.drew
        have Z := Lib.hid (Z0.out.next (Below.refl _ wr).drew)
        go_region_held3 (fun _ => True) (exact trivial)
          (first
            | (go_at_call 10; (with_reducible refine (M1.out _ Z.out).mono ?_); rintro e w3 ⟨rfl, hb3⟩; replace K := Lib.hid (K.out.next hb3); replace Z := Lib.hid (Z.out.next hb3); clear hb3)
            | (go_at_call 10; (with_reducible refine (M2.out _ Z.out).mono ?_); rintro e w3 ⟨rfl, hb3⟩; replace K := Lib.hid (K.out.next hb3); replace Z := Lib.hid (Z.out.next hb3); clear hb3)
            | (go_at_call 10; (with_reducible refine (M3.out _ Z.out).mono ?_); rintro e w3 ⟨rfl, hb3⟩; replace K := Lib.hid (K.out.next hb3); replace Z := Lib.hid (Z.out.next hb3); clear hb3)
            | (go_at_call 10; (with_reducible refine (sumNil _).mono ?_); rintro e w3 ⟨rfl, hb3⟩; replace K := Lib.hid (K.out.next hb3); replace Z := Lib.hid (Z.out.next hb3); clear hb3)
            | (go_at_call 8; (with_reducible refine (M4.out _).mono ?_); rintro e w3 ⟨rfl, hb3⟩; replace K := Lib.hid (K.out.next hb3); replace Z := Lib.hid (Z.out.next hb3); clear hb3))
        all_goals (go_wp2_with fail; go_meet; exact ⟨rfl, K.out⟩)
      · obtain ⟨V1, hV1⟩ : ∃ V1, sumC ([a, b, c, a].take 4) = V1 := ⟨_, rfl⟩
        obtain ⟨V2, hV2⟩ : ∃ V2, sumC ([a, b, c, a].drop 4) = V2 := ⟨_, rfl⟩
        obtain ⟨V, hV⟩ : ∃ V, sumC [a, b, c, a] = V := ⟨_, rfl⟩
        have M1 := Lib.hid (fun w' (h : LSt B [a, b, c, a] w') => sumHead B 4 4 [a, b, c, a] V w' hV (by simp) (by simp) h)
        have M2 := Lib.hid (fun w' (h : LSt B [a, b, c, a] w') => sumHead B 4 4 [a, b, c, a] V1 w' hV1 (by simp) (by simp) h)
        have M3 := Lib.hid (fun w' (h : LSt B [a, b, c, a] w') => sumTail B 16 0 4 0 [a, b, c, a] V2 w' hV2 rfl rfl (by simp) h)
        have M4 := Lib.hid (addC V1 V2 V (by rw [← hV1, ← hV2, ← hV]; exact HP.out 4))
        have M5 := Lib.hid (addC0 V V (by rw [← hV]; exact HP.out 4))
        clear hV hV1 hV2
        have K := Lib.hid KB.out.drew
        have Z := Lib.hid (Z0.out.next (Below.refl _ wr).drew)
        go_region_held3 (fun _ => True) (exact trivial)
          (first
            | (go_at_call 10; (with_reducible refine (M1.out _ Z.out).mono ?_); rintro e w3 ⟨rfl, hb3⟩; replace K := Lib.hid (K.out.next hb3); replace Z := Lib.hid (Z.out.next hb3); clear hb3)
            | (go_at_call 10; (with_reducible refine (M2.out _ Z.out).mono ?_); rintro e w3 ⟨rfl, hb3⟩; replace K := Lib.hid (K.out.next hb3); replace Z := Lib.hid (Z.out.next hb3); clear hb3)
            | (go_at_call 10; (with_reducible refine (M3.out _ Z.out).mono ?_); rintro e w3 ⟨rfl, hb3⟩; replace K := Lib.hid (K.out.next hb3); replace Z := Lib.hid (Z.out.next hb3); clear hb3)
            | (go_at_call 8; (with_reducible refine (M5.out _).mono ?_); rintro e w3 ⟨rfl, hb3⟩; replace K := Lib.hid (K.out.next hb3); replace Z := Lib.hid (Z.out.next hb3); clear hb3)
            | (go_at_call 10; (with_reducible refine (sumEmpty _ _ _).mono ?_); rintro e w3 ⟨rfl, hb3⟩; replace K := Lib.hid (K.out.next hb3); replace Z := Lib.hid (Z.out.next hb3); clear hb3)
            | (go_at_call 10; (with_reducible refine (sumNil _).mono ?_); rintro e w3 ⟨rfl, hb3⟩; replace K := Lib.hid (K.out.next hb3); replace Z := Lib.hid (Z.out.next hb3); clear hb3)
            | (go_at_call 8; (with_reducible refine (M4.out _).mono ?_); rintro e w3 ⟨rfl, hb3⟩; replace K := Lib.hid (K.out.next hb3); replace Z := Lib.hid (Z.out.next hb3); clear hb3))
        all_goals (go_wp2_with fail; go_meet; exact ⟨rfl, K.out⟩)
    case rest =>
      obtain ⟨rfl, hst⟩ := hcut
      have KB1 := Lib.hid hst
      clear hst
      obtain ⟨S, hS⟩ : ∃ S, a.add b = S := ⟨_, rfl⟩
      obtain ⟨X, hX⟩ : ∃ X, a.add c = X := ⟨_, rfl⟩
      obtain ⟨Y, hY⟩ : ∃ Y, b.add c = Y := ⟨_, rfl⟩
      have HS := Lib.hid hS
      have HX := Lib.hid hX
      have HY := Lib.hid hY
      have PA := Lib.hid ha
      have PB := Lib.hid hb
      have PC := Lib.hid hc
      clear hS hX hY ha hb hc HP Z0 KB
      go_wp2_with fail
      rcases most_or a b with h1 | h1
      · rcases most_or b a with h2 | h2
        · obtain rfl := C4.most_anti h1.out h2.out
          rcases most_or a c with h3 | h3
          · have N1 := Lib.hid (mostC a a true (C4.most_refl a))
            have N2 := Lib.hid (addC a a S HS.out)
            have N3 := Lib.hid (mostC a S true (by rw [← HS.out]; exact C4.most_add a a PA.out PA.out))
            have N5 := Lib.hid (addC a c X HX.out)
            have N7 := Lib.hid (mostC X X true (C4.most_refl X))
            have N9 := Lib.hid (mostC a c true h3.out)
            clear HS HX HY PA PB PC
            apply wp_region_kept (MSt w na nb nc a a c) (hm := by kernel_rfl) (hB := by kernel_rfl) (hb := by kernel_rfl) (hJ := KB1.out.drew)
            · go_light
              repeat (first
                | (apply keep_run
                   · go_simp
                   · unfold gives
                     intro w5 hw
                     obtain ⟨a0, a1, a2, a3, b0, b1, b2, b3, c0, c1, c2, c3⟩ := MSt.cells hw
                     go_simp
                     first
                       | exact ⟨rfl, hw⟩
                       | rfl
                       | (go_at_call 11; (with_reducible refine (N1.out _).mono ?_); rintro e w6 ⟨rfl, hb6⟩; exact ⟨rfl, hw.next hb6⟩)
                       | (go_at_call 8; (with_reducible refine (N2.out _).mono ?_); rintro e w6 ⟨rfl, hb6⟩; exact ⟨rfl, hw.next hb6⟩)
                       | (go_at_call 11; (with_reducible refine (N3.out _).mono ?_); rintro e w6 ⟨rfl, hb6⟩; exact ⟨rfl, hw.next hb6⟩)
                       | (go_at_call 11; (with_reducible refine (N9.out _).mono ?_); rintro e w6 ⟨rfl, hb6⟩; exact ⟨rfl, hw.next hb6⟩)
                   intro K hK
                   go_simp
                   refine hK _ ?_
                   clear hK K)
                | (refine keep_skip ?_ ?_
                   · first
                       | (go_simp; done)
                       | kernel_rfl
                   intro K hK
                   go_simp
                   refine hK _ ?_
                   clear hK K))
              exact keep_done
            intro w7 h7
            have KB2 := Lib.hid h7
            clear h7 KB1
            go_wp2_with fail
            apply wp_region_kept (MSt w na nb nc a a c) (hm := by kernel_rfl) (hB := by kernel_rfl) (hb := by kernel_rfl) (hJ := KB2.out.drew)
            · go_light
              repeat (first
                | (apply keep_run
                   · go_simp
                   · unfold gives
                     intro w5 hw
                     obtain ⟨a0, a1, a2, a3, b0, b1, b2, b3, c0, c1, c2, c3⟩ := MSt.cells hw
                     go_simp
                     first
                       | exact ⟨rfl, hw⟩
                       | rfl
                       | (go_at_call 11; (with_reducible refine (N1.out _).mono ?_); rintro e w6 ⟨rfl, hb6⟩; exact ⟨rfl, hw.next hb6⟩)
                       | (go_at_call 8; (with_reducible refine (N5.out _).mono ?_); rintro e w6 ⟨rfl, hb6⟩; exact ⟨rfl, hw.next hb6⟩)
                       | (go_at_call 11; (with_reducible refine (N7.out _).mono ?_); rintro e w6 ⟨rfl, hb6⟩; exact ⟨rfl, hw.next hb6⟩)
                   intro K hK
                   go_simp
                   refine hK _ ?_
                   clear hK K)
                | (refine keep_skip ?_ ?_
                   · first
                       | (go_simp; done)
                       | kernel_rfl
                   intro K hK
                   go_simp
                   refine hK _ ?_
                   clear hK K))
              exact keep_done
            intro w7 h7
            have KB3 := Lib.hid h7
            clear h7 KB2
            go_wp2_with fail
            go_ret
            exact ⟨rfl, KB3.out.below⟩
          · have N1 := Lib.hid (mostC a a true (C4.most_refl a))
            have N2 := Lib.hid (addC a a S HS.out)
            have N3 := Lib.hid (mostC a S true (by rw [← HS.out]; exact C4.most_add a a PA.out PA.out))
            have N5 := Lib.hid (addC a c X HX.out)
            have N7 := Lib.hid (mostC X X true (C4.most_refl X))
            have N9 := Lib.hid (mostC a c false h3.out)
            clear HS HX HY PA PB PC
            apply wp_region_kept (MSt w na nb nc a a c) (hm := by kernel_rfl) (hB := by kernel_rfl) (hb := by kernel_rfl) (hJ := KB1.out.drew)
            · go_light
              repeat (first
                | (apply keep_run
                   · go_simp
                   · unfold gives
                     intro w5 hw
                     obtain ⟨a0, a1, a2, a3, b0, b1, b2, b3, c0, c1, c2, c3⟩ := MSt.cells hw
                     go_simp
                     first
                       | exact ⟨rfl, hw⟩
                       | rfl
                       | (go_at_call 11; (with_reducible refine (N1.out _).mono ?_); rintro e w6 ⟨rfl, hb6⟩; exact ⟨rfl, hw.next hb6⟩)
                       | (go_at_call 8; (with_reducible refine (N2.out _).mono ?_); rintro e w6 ⟨rfl, hb6⟩; exact ⟨rfl, hw.next hb6⟩)
                       | (go_at_call 11; (with_reducible refine (N3.out _).mono ?_); rintro e w6 ⟨rfl, hb6⟩; exact ⟨rfl, hw.next hb6⟩)
                       | (go_at_call 11; (with_reducible refine (N9.out _).mono ?_); rintro e w6 ⟨rfl, hb6⟩; exact ⟨rfl, hw.next hb6⟩)
                   intro K hK
                   go_simp
                   refine hK _ ?_
                   clear hK K)
                | (refine keep_skip ?_ ?_
                   · first
                       | (go_simp; done)
                       | kernel_rfl
                   intro K hK
                   go_simp
                   refine hK _ ?_
                   clear hK K))
              exact keep_done
            intro w7 h7
            have KB2 := Lib.hid h7
            clear h7 KB1
            go_wp2_with fail
            apply wp_region_kept (MSt w na nb nc a a c) (hm := by kernel_rfl) (hB := by kernel_rfl) (hb := by kernel_rfl) (hJ := KB2.out.drew)
            · go_light
              repeat (first
                | (apply keep_run
                   · go_simp
                   · unfold gives
                     intro w5 hw
                     obtain ⟨a0, a1, a2, a3, b0, b1, b2, b3, c0, c1, c2, c3⟩ := MSt.cells hw
                     go_simp
                     first
                       | exact ⟨rfl, hw⟩
                       | rfl
                       | (go_at_call 11; (with_reducible refine (N1.out _).mono ?_); rintro e w6 ⟨rfl, hb6⟩; exact ⟨rfl, hw.next hb6⟩)
                       | (go_at_call 8; (with_reducible refine (N5.out _).mono ?_); rintro e w6 ⟨rfl, hb6⟩; exact ⟨rfl, hw.next hb6⟩)
                       | (go_at_call 11; (with_reducible refine (N7.out _).mono ?_); rintro e w6 ⟨rfl, hb6⟩; exact ⟨rfl, hw.next hb6⟩)
                   intro K hK
                   go_simp
                   refine hK _ ?_
                   clear hK K)
                | (refine keep_skip ?_ ?_
                   · first
                       | (go_simp; done)
                       | kernel_rfl
                   intro K hK
                   go_simp
                   refine hK _ ?_
                   clear hK K))
              exact keep_done
            intro w7 h7
            have KB3 := Lib.hid h7
            clear h7 KB2
            go_wp2_with fail
            go_ret
            exact ⟨rfl, KB3.out.below⟩
        · rcases most_or b c with h3 | h3
          · have N1 := Lib.hid (mostC a a true (C4.most_refl a))
            have N2 := Lib.hid (addC a b S HS.out)
            have N3 := Lib.hid (mostC a S true (by rw [← HS.out]; exact C4.most_add a b PA.out PB.out))
            have N5 := Lib.hid (addC a c X HX.out)
            have N4 := Lib.hid (mostC a b true h1.out)
            have N8 := Lib.hid (mostC b a false h2.out)
            have N6 := Lib.hid (addC b c Y HY.out)
            have N7 := Lib.hid (mostC X Y true (by rw [← HX.out, ← HY.out, C4.most_shift a b c PA.out PB.out PC.out]; exact h1.out))
            have N9 := Lib.hid (mostC b c true h3.out)
            have N10 := Lib.hid (mostC a c true (C4.most_trans h1.out h3.out))
            clear HS HX HY PA PB PC
            apply wp_region_kept (MSt w na nb nc a b c) (hm := by kernel_rfl) (hB := by kernel_rfl) (hb := by kernel_rfl) (hJ := KB1.out.drew)
            · go_light
              repeat (first
                | (apply keep_run
                   · go_simp
                   · unfold gives
                     intro w5 hw
                     obtain ⟨a0, a1, a2, a3, b0, b1, b2, b3, c0, c1, c2, c3⟩ := MSt.cells hw
                     go_simp
                     first
                       | exact ⟨rfl, hw⟩
                       | rfl
                       | (go_at_call 11; (with_reducible refine (N1.out _).mono ?_); rintro e w6 ⟨rfl, hb6⟩; exact ⟨rfl, hw.next hb6⟩)
                       | (go_at_call 8; (with_reducible refine (N2.out _).mono ?_); rintro e w6 ⟨rfl, hb6⟩; exact ⟨rfl, hw.next hb6⟩)
                       | (go_at_call 11; (with_reducible refine (N3.out _).mono ?_); rintro e w6 ⟨rfl, hb6⟩; exact ⟨rfl, hw.next hb6⟩)
                       | (go_at_call 11; (with_reducible refine (N4.out _).mono ?_); rintro e w6 ⟨rfl, hb6⟩; exact ⟨rfl, hw.next hb6⟩)
                       | (go_at_call 11; (with_reducible refine (N8.out _).mono ?_); rintro e w6 ⟨rfl, hb6⟩; exact ⟨rfl, hw.next hb6⟩)
                       | (go_at_call 11; (with_reducible refine (N9.out _).mono ?_); rintro e w6 ⟨rfl, hb6⟩; exact ⟨rfl, hw.next hb6⟩)
                       | (go_at_call 11; (with_reducible refine (N10.out _).mono ?_); rintro e w6 ⟨rfl, hb6⟩; exact ⟨rfl, hw.next hb6⟩)
                   intro K hK
                   go_simp
                   refine hK _ ?_
                   clear hK K)
                | (refine keep_skip ?_ ?_
                   · first
                       | (go_simp; done)
                       | kernel_rfl
                   intro K hK
                   go_simp
                   refine hK _ ?_
                   clear hK K))
              exact keep_done
            intro w7 h7
            have KB2 := Lib.hid h7
            clear h7 KB1
            go_wp2_with fail
            apply wp_region_kept (MSt w na nb nc a b c) (hm := by kernel_rfl) (hB := by kernel_rfl) (hb := by kernel_rfl) (hJ := KB2.out.drew)
            · go_light
              repeat (first
                | (apply keep_run
                   · go_simp
                   · unfold gives
                     intro w5 hw
                     obtain ⟨a0, a1, a2, a3, b0, b1, b2, b3, c0, c1, c2, c3⟩ := MSt.cells hw
                     go_simp
                     first
                       | exact ⟨rfl, hw⟩
                       | rfl
                       | (go_at_call 11; (with_reducible refine (N4.out _).mono ?_); rintro e w6 ⟨rfl, hb6⟩; exact ⟨rfl, hw.next hb6⟩)
                       | (go_at_call 8; (with_reducible refine (N5.out _).mono ?_); rintro e w6 ⟨rfl, hb6⟩; exact ⟨rfl, hw.next hb6⟩)
                       | (go_at_call 8; (with_reducible refine (N6.out _).mono ?_); rintro e w6 ⟨rfl, hb6⟩; exact ⟨rfl, hw.next hb6⟩)
                       | (go_at_call 11; (with_reducible refine (N7.out _).mono ?_); rintro e w6 ⟨rfl, hb6⟩; exact ⟨rfl, hw.next hb6⟩)
                   intro K hK
                   go_simp
                   refine hK _ ?_
                   clear hK K)
                | (refine keep_skip ?_ ?_
                   · first
                       | (go_simp; done)
                       | kernel_rfl
                   intro K hK
                   go_simp
                   refine hK _ ?_
                   clear hK K))
              exact keep_done
            intro w7 h7
            have KB3 := Lib.hid h7
            clear h7 KB2
            go_wp2_with fail
            go_ret
            exact ⟨rfl, KB3.out.below⟩
          · have N1 := Lib.hid (mostC a a true (C4.most_refl a))
            have N2 := Lib.hid (addC a b S HS.out)
            have N3 := Lib.hid (mostC a S true (by rw [← HS.out]; exact C4.most_add a b PA.out PB.out))
            have N5 := Lib.hid (addC a c X HX.out)
            have N4 := Lib.hid (mostC a b true h1.out)
            have N8 := Lib.hid (mostC b a false h2.out)
            have N6 := Lib.hid (addC b c Y HY.out)
            have N7 := Lib.hid (mostC X Y true (by rw [← HX.out, ← HY.out, C4.most_shift a b c PA.out PB.out PC.out]; exact h1.out))
            have N9 := Lib.hid (mostC b c false h3.out)
            clear HS HX HY PA PB PC
            apply wp_region_kept (MSt w na nb nc a b c) (hm := by kernel_rfl) (hB := by kernel_rfl) (hb := by kernel_rfl) (hJ := KB1.out.drew)
            · go_light
              repeat (first
                | (apply keep_run
                   · go_simp
                   · unfold gives
                     intro w5 hw
                     obtain ⟨a0, a1, a2, a3, b0, b1, b2, b3, c0, c1, c2, c3⟩ := MSt.cells hw
                     go_simp
                     first
                       | exact ⟨rfl, hw⟩
                       | rfl
                       | (go_at_call 11; (with_reducible refine (N1.out _).mono ?_); rintro e w6 ⟨rfl, hb6⟩; exact ⟨rfl, hw.next hb6⟩)
                       | (go_at_call 8; (with_reducible refine (N2.out _).mono ?_); rintro e w6 ⟨rfl, hb6⟩; exact ⟨rfl, hw.next hb6⟩)
                       | (go_at_call 11; (with_reducible refine (N3.out _).mono ?_); rintro e w6 ⟨rfl, hb6⟩; exact ⟨rfl, hw.next hb6⟩)
                       | (go_at_call 11; (with_reducible refine (N4.out _).mono ?_); rintro e w6 ⟨rfl, hb6⟩; exact ⟨rfl, hw.next hb6⟩)
                       | (go_at_call 11; (with_reducible refine (N8.out _).mono ?_); rintro e w6 ⟨rfl, hb6⟩; exact ⟨rfl, hw.next hb6⟩)
                       | (go_at_call 11; (with_reducible refine (N9.out _).mono ?_); rintro e w6 ⟨rfl, hb6⟩; exact ⟨rfl, hw.next hb6⟩)
                   intro K hK
                   go_simp
                   refine hK _ ?_
                   clear hK K)
                | (refine keep_skip ?_ ?_
                   · first
                       | (go_simp; done)
                       | kernel_rfl
                   intro K hK
                   go_simp
                   refine hK _ ?_
                   clear hK K))
              exact keep_done
            intro w7 h7
            have KB2 := Lib.hid h7
            clear h7 KB1
            go_wp2_with fail
            apply wp_region_kept (MSt w na nb nc a b c) (hm := by kernel_rfl) (hB := by kernel_rfl) (hb := by kernel_rfl) (hJ := KB2.out.drew)
            · go_light
              repeat (first
                | (apply keep_run
                   · go_simp
                   · unfold gives
                     intro w5 hw
                     obtain ⟨a0, a1, a2, a3, b0, b1, b2, b3, c0, c1, c2, c3⟩ := MSt.cells hw
                     go_simp
                     first
                       | exact ⟨rfl, hw⟩
                       | rfl
                       | (go_at_call 11; (with_reducible refine (N4.out _).mono ?_); rintro e w6 ⟨rfl, hb6⟩; exact ⟨rfl, hw.next hb6⟩)
                       | (go_at_call 8; (with_reducible refine (N5.out _).mono ?_); rintro e w6 ⟨rfl, hb6⟩; exact ⟨rfl, hw.next hb6⟩)
                       | (go_at_call 8; (with_reducible refine (N6.out _).mono ?_); rintro e w6 ⟨rfl, hb6⟩; exact ⟨rfl, hw.next hb6⟩)
                       | (go_at_call 11; (with_reducible refine (N7.out _).mono ?_); rintro e w6 ⟨rfl, hb6⟩; exact ⟨rfl, hw.next hb6⟩)
                   intro K hK
                   go_simp
                   refine hK _ ?_
                   clear hK K)
                | (refine keep_skip ?_ ?_
                   · first
                       | (go_simp; done)
                       | kernel_rfl
                   intro K hK
                   go_simp
                   refine hK _ ?_
                   clear hK K))
              exact keep_done
            intro w7 h7
            have KB3 := Lib.hid h7
            clear h7 KB2
            go_wp2_with fail
            go_ret
            exact ⟨rfl, KB3.out.below⟩
      · have N1 := Lib.hid (mostC a a true (C4.most_refl a))
        have N2 := Lib.hid (addC a b S HS.out)
        have N3 := Lib.hid (mostC a S true (by rw [← HS.out]; exact C4.most_add a b PA.out PB.out))
        have N5 := Lib.hid (addC a c X HX.out)
        have N4 := Lib.hid (mostC a b false h1.out)
        have N6 := Lib.hid (addC b c Y HY.out)
        have N7 := Lib.hid (mostC X Y false (by rw [← HX.out, ← HY.out, C4.most_shift a b c PA.out PB.out PC.out]; exact h1.out))
        clear HS HX HY PA PB PC
        apply wp_region_kept (MSt w na nb nc a b c) (hm := by kernel_rfl) (hB := by kernel_rfl) (hb := by kernel_rfl) (hJ := KB1.out.drew)
        · go_light
          repeat (first
            | (apply keep_run
               · go_simp
               · unfold gives
                 intro w5 hw
                 obtain ⟨a0, a1, a2, a3, b0, b1, b2, b3, c0, c1, c2, c3⟩ := MSt.cells hw
                 go_simp
                 first
                   | exact ⟨rfl, hw⟩
                   | rfl
                   | (go_at_call 11; (with_reducible refine (N1.out _).mono ?_); rintro e w6 ⟨rfl, hb6⟩; exact ⟨rfl, hw.next hb6⟩)
                   | (go_at_call 8; (with_reducible refine (N2.out _).mono ?_); rintro e w6 ⟨rfl, hb6⟩; exact ⟨rfl, hw.next hb6⟩)
                   | (go_at_call 11; (with_reducible refine (N3.out _).mono ?_); rintro e w6 ⟨rfl, hb6⟩; exact ⟨rfl, hw.next hb6⟩)
                   | (go_at_call 11; (with_reducible refine (N4.out _).mono ?_); rintro e w6 ⟨rfl, hb6⟩; exact ⟨rfl, hw.next hb6⟩)
               intro K hK
               go_simp
               refine hK _ ?_
               clear hK K)
            | (refine keep_skip ?_ ?_
               · first
                   | (go_simp; done)
                   | kernel_rfl
               intro K hK
               go_simp
               refine hK _ ?_
               clear hK K))
          exact keep_done
        intro w7 h7
        have KB2 := Lib.hid h7
        clear h7 KB1
        go_wp2_with fail
        apply wp_region_kept (MSt w na nb nc a b c) (hm := by kernel_rfl) (hB := by kernel_rfl) (hb := by kernel_rfl) (hJ := KB2.out.drew)
        · go_light
          repeat (first
            | (apply keep_run
               · go_simp
               · unfold gives
                 intro w5 hw
                 obtain ⟨a0, a1, a2, a3, b0, b1, b2, b3, c0, c1, c2, c3⟩ := MSt.cells hw
                 go_simp
                 first
                   | exact ⟨rfl, hw⟩
                   | rfl
                   | (go_at_call 11; (with_reducible refine (N4.out _).mono ?_); rintro e w6 ⟨rfl, hb6⟩; exact ⟨rfl, hw.next hb6⟩)
                   | (go_at_call 8; (with_reducible refine (N5.out _).mono ?_); rintro e w6 ⟨rfl, hb6⟩; exact ⟨rfl, hw.next hb6⟩)
                   | (go_at_call 8; (with_reducible refine (N6.out _).mono ?_); rintro e w6 ⟨rfl, hb6⟩; exact ⟨rfl, hw.next hb6⟩)
                   | (go_at_call 11; (with_reducible refine (N7.out _).mono ?_); rintro e w6 ⟨rfl, hb6⟩; exact ⟨rfl, hw.next hb6⟩)
               intro K hK
               go_simp
               refine hK _ ?_
               clear hK K)
            | (refine keep_skip ?_ ?_
               · first
                   | (go_simp; done)
                   | kernel_rfl
               intro K hK
               go_simp
               refine hK _ ?_
               clear hK K))
          exact keep_done
        intro w7 h7
        have KB3 := Lib.hid h7
        clear h7 KB2
        go_wp2_with fail
        go_ret
        exact ⟨rfl, KB3.out.below⟩
end Go.Proofs.YtdalfkdfpeffdaaDoor
