/- Proved here: the law on texts returns true; for every eight numbers and every three bytes, where the library's tables stand (Env). -/
import Derived.Test.YtdalfkdfpeffdaaDoorMT0
import Derived.IntWalk
namespace Go.Proofs.YtdalfkdfpeffdaaDoor
open Go.RowKit

set_option maxRecDepth 100000 in
set_option maxHeartbeats 4000000 in
theorem texts_any (x0 x1 x2 x3 x4 x5 x6 x7 v0 v1 v2 : Int) (hv0 : 0 ≤ v0) (hv0' : v0 < 256) (hv1 : 0 ≤ v1) (hv1' : v1 < 256) (w : World) (he : Env w) :
    Calls Tryd.prog 4 #[.agg #[.int .i64 x0, .int .i64 x1, .int .i64 x2, .int .i64 x3, .int .i64 x4, .int .i64 x5, .int .i64 x6, .int .i64 x7], .agg #[.int .u8 v0, .int .u8 v1, .int .u8 v2]] w fun e w' => e = .returned (.bool true) ∧ Below w.heap.size w w' := by
  obtain ⟨cb, rfl⟩ : ∃ cb : UInt8, v1 = (cb.toNat : Int) := ⟨UInt8.ofNat v1.toNat, by rw [UInt8.toNat_ofNat']; omega⟩
  have H0 := Lib.hid (XT.start (x0 := .int .i64 x0) (x1 := .int .i64 x1) (x2 := .int .i64 x2) (x3 := .int .i64 x3) (x4 := .int .i64 x4) (x5 := .int .i64 x5) (x6 := .int .i64 x6) (x7 := .int .i64 x7) (v0 := .int .u8 v0) (v1 := .int .u8 (cb.toNat : Int)) (v2 := .int .u8 v2) he 33 34)
  clear he
  go_enter Tryd.func4, Tryd.ntmps4
  go_wp2_with (go_at_call 6; fail)
  refine (examples_any _ H0.out.env).mono ?_
  rintro e w1 ⟨rfl, hb1⟩
  have H1 := Lib.hid (H0.out.next hb1)
  clear hb1 H0
  go_wp2_with fail
  refine wp_region_inv (fun D a w' => ∃ t6 t7 t16 t17 t18 t19 t20 t21 : Value, a = ({ tmps := #[.agg #[.int .i64 x0, .int .i64 x1, .int .i64 x2, .int .i64 x3, .int .i64 x4, .int .i64 x5, .int .i64 x6, .int .i64 x7], .agg #[.int .u8 v0, .int .u8 (cb.toNat : Int), .int .u8 v2], .pointer (some ⟨w.heap.size, 0, none⟩), .pointer (some ⟨w.heap.size + 1, 0, none⟩), .bool false, .bool true, t6, t7, undef, undef, undef, undef, undef, .bool true, .bool true, .bool false, t16, t17, t18, t19, t20, t21, undef, undef, undef, undef, undef, undef, undef, undef, undef, undef, undef, undef, undef, undef, undef, undef, undef, undef, undef, undef, undef, undef, undef, undef, undef, undef, undef, undef, undef, undef, undef, undef, undef, undef, undef, undef, undef, undef, undef, undef, undef, undef, undef, undef, undef, undef, undef, undef, undef, undef, undef, undef, undef, undef, undef, undef, undef, undef, undef, undef, undef, undef, undef, undef, undef, undef, undef, undef, undef, undef, undef, undef, undef, undef, undef, undef, undef, undef, undef, undef, undef, undef, undef, undef, undef, undef, undef, undef, undef, undef, undef, undef, undef, undef, undef, undef, undef, undef, undef, undef, undef, undef, undef, undef, undef, undef, undef, undef, undef], defers := [] } : Act) ∧ XT (.int .i64 x0) (.int .i64 x1) (.int .i64 x2) (.int .i64 x3) (.int .i64 x4) (.int .i64 x5) (.int .i64 x6) (.int .i64 x7) (.int .u8 v0) (.int .u8 (cb.toNat : Int)) (.int .u8 v2) w w' ∧ TH (D 0) (D 1) (D 2) (D 6) (D 8) w.heap.size (w.heap.size + 1) w' 0 x0 x1 x2 x3 t16 t17 t18 t6 ∧ TH (D 3) (D 4) (D 5) (D 7) (D 9) w.heap.size (w.heap.size + 1) w' 4 x4 x5 x6 x7 t19 t20 t21 t7 ∧ (D 6 = true → D 7 = true → t6 ≠ t7)) (by kernel_rfl) ?_ ?_ ?_ ?_
  · exact ⟨undef, undef, undef, undef, undef, undef, undef, undef, rfl, H1.out.drew, ⟨(fun e => by cases e), (fun e => by cases e), (fun e => by cases e), (fun e => by cases e)⟩, ⟨(fun e => by cases e), (fun e => by cases e), (fun e => by cases e), (fun e => by cases e)⟩, (fun e => by cases e)⟩
  · rintro D a w' i o hi hD he ⟨t6, t7, t16, t17, t18, t19, t20, t21, rfl, hst, T1, T2, d12⟩ K hK
    have hi10 : i < 10 := by
      refine Decidable.byContradiction fun h => ?_
      rw [Array.getElem?_eq_none (by simp; omega)] at hi
      cases hi
    rcases (by omega : i = 0 ∨ i = 1 ∨ i = 2 ∨ i = 3 ∨ i = 4 ∨ i = 5 ∨ i = 6 ∨ i = 7 ∨ i = 8 ∨ i = 9) with rfl | rfl | rfl | rfl | rfl | rfl | rfl | rfl | rfl | rfl <;> cases hi <;> refine wpOp_plain rfl rfl ?_
    · go_simp
      exact hK _ _ ⟨_, _, _, _, _, _, _, _, rfl, hst, T1.idx, T2, d12⟩
    · have e1 := T1.i (he ⟨0, .data⟩ (by simp) rfl)
      subst e1
      have c0 := hst.c0
      have c1 := hst.c1
      have c2 := hst.c2
      have c3 := hst.c3
      go_simp
      exact hK _ _ ⟨_, _, _, _, _, _, _, _, rfl, hst, T1.load, T2, d12⟩
    · have e1 := T1.l (he ⟨1, .data⟩ (by simp) rfl)
      subst e1
      go_simp
      go_at_call 7
      refine (lawplain_any x0 x1 x2 x3 _).mono ?_
      rintro e w2 ⟨⟨c, hc, rfl⟩, hb2⟩
      exact hK _ _ ⟨_, _, _, _, _, _, _, _, rfl, hst.next hb2, (T1.next hb2).call hc, T2.next hb2, d12⟩
    · go_simp
      exact hK _ _ ⟨_, _, _, _, _, _, _, _, rfl, hst, T1, T2.idx, d12⟩
    · have e1 := T2.i (he ⟨3, .data⟩ (by simp) rfl)
      subst e1
      have c4 := hst.c4
      have c5 := hst.c5
      have c6 := hst.c6
      have c7 := hst.c7
      go_simp
      exact hK _ _ ⟨_, _, _, _, _, _, _, _, rfl, hst, T1, T2.load, d12⟩
    · have e1 := T2.l (he ⟨4, .data⟩ (by simp) rfl)
      subst e1
      go_simp
      go_at_call 7
      refine (lawplain_any x4 x5 x6 x7 _).mono ?_
      rintro e w2 ⟨⟨c, hc, rfl⟩, hb2⟩
      exact hK _ _ ⟨_, _, _, _, _, _, _, _, rfl, hst.next hb2, T1.next hb2, (T2.next hb2).call hc, d12⟩
    · go_simp
      exact hK _ _ ⟨_, _, _, _, _, _, _, _, rfl, hst.next ((Below.refl _ _).alloc (Nat.le_refl _) _), T1.alloc hst.size, T2.next ((Below.refl _ _).alloc (Nat.le_refl _) _), fun _ e2 => (T2.fresh e2).symm⟩
    · go_simp
      exact hK _ _ ⟨_, _, _, _, _, _, _, _, rfl, hst.next ((Below.refl _ _).alloc (Nat.le_refl _) _), T1.next ((Below.refl _ _).alloc (Nat.le_refl _) _), T2.alloc hst.size, fun e1 _ => T1.fresh e1⟩
    · have e9 := he ⟨6, .data⟩ (by simp) rfl
      obtain ⟨m, c0, rfl, hx, -⟩ := T1.a e9
      obtain ⟨d, hd, rfl⟩ := T1.c (he ⟨2, .data⟩ (by simp) rfl)
      have b0 := hx.c0
      have b1 := hx.c1
      have b2 := hx.c2
      have b3 := hx.c3
      have g0 := hx.f0
      have g1 := hx.f1
      have g2 := hx.f2
      have g3 := hx.f3
      unfold C4.val
      go_simp
      exact hK _ _ ⟨_, _, _, _, _, _, _, _, rfl, hst.put hx.lo d, T1.put hx hd, T2.other (fun e => (d12 e9 e).symm), d12⟩
    · have e9 := he ⟨7, .data⟩ (by simp) rfl
      obtain ⟨m, c0, rfl, hx, -⟩ := T2.a e9
      obtain ⟨d, hd, rfl⟩ := T2.c (he ⟨5, .data⟩ (by simp) rfl)
      have b0 := hx.c0
      have b1 := hx.c1
      have b2 := hx.c2
      have b3 := hx.c3
      have g0 := hx.f0
      have g1 := hx.f1
      have g2 := hx.f2
      have g3 := hx.f3
      unfold C4.val
      go_simp
      exact hK _ _ ⟨_, _, _, _, _, _, _, _, rfl, hst.put hx.lo d, T1.other (fun e => d12 e e9), T2.put hx hd, d12⟩
  · exact back_of (by kernel_rfl)
  · rintro D a w' hall ⟨t6, t7, t16, t17, t18, t19, t20, t21, rfl, hst, T1, T2, d12⟩
    obtain ⟨na, a, rfl, hxa, ha⟩ := T1.a (hall 6 (by decide))
    obtain ⟨nb, b, rfl, hxb, hb⟩ := T2.a (hall 7 (by decide))
    replace ha := ha (hall 8 (by decide))
    replace hb := hb (hall 9 (by decide))
    have K0 := Lib.hid (TSt.mk hxa hxb hst)
    clear hxa hxb T1 T2 d12 hall hst H1
    obtain ⟨a0, a1, a2, a3, b0, b1, b2, b3⟩ := K0.out.cells
    go_wp2_with fail
    obtain ⟨s, hs⟩ : ∃ s, textB a = s := ⟨_, rfl⟩
    obtain ⟨s2, hs2⟩ : ∃ s2, textB b = s2 := ⟨_, rfl⟩
    have hz := text_size a ha
    rw [hs] at hz
    obtain ⟨hz0, hz1⟩ := hz
    have PA := Lib.hid ha
    have PB := Lib.hid hb
    have HS := Lib.hid hs
    have HS2 := Lib.hid hs2
    clear ha hb hs hs2 a0 a1 a2 a3 b0 b1 b2 b3
    refine (textC a s PA.out HS.out _ K0.out.x.env).mono ?_
    rintro e w2 ⟨rfl, hb2⟩
    have K1 := Lib.hid (K0.out.next hb2)
    clear hb2 K0
    go_wp2_with fail
    have L1 := Lib.hid (fun w' (h : Env w') => parsedC s a 0 (by rw [← HS.out]; exact parse_text a PA.out) (by omega) w' h)
    have L2 := Lib.hid (fun w' (h : Env w') => textC b s2 PB.out HS2.out w' h)
    have hzb : ((s.size : Int) == 0) = false := by rw [beq_eq_false_iff_ne]; omega
    go_cut [43] (fun v wx => v = .bool false ∧ TSt (.int .i64 x0) (.int .i64 x1) (.int .i64 x2) (.int .i64 x3) (.int .i64 x4) (.int .i64 x5) (.int .i64 x6) (.int .i64 x7) (.int .u8 v0) (.int .u8 (cb.toNat : Int)) (.int .u8 v2) w na nb a b wx)
    case first =>
      by_cases hab : a = b
      · subst hab
        obtain rfl : s = s2 := HS.out.symm.trans HS2.out
        have K := Lib.hid K1.out.drew
        go_region_held3 (fun w' => w'.cell? ⟨na, 0, none⟩ = some (.int .i64 a.i) ∧ w'.cell? ⟨na, 1, none⟩ = some (.int .i64 a.s) ∧ w'.cell? ⟨na, 2, none⟩ = some (.int .i64 a.m) ∧ w'.cell? ⟨na, 3, none⟩ = some (.int .i64 a.k) ∧ w'.cell? ⟨nb, 0, none⟩ = some (.int .i64 a.i) ∧ w'.cell? ⟨nb, 1, none⟩ = some (.int .i64 a.s) ∧ w'.cell? ⟨nb, 2, none⟩ = some (.int .i64 a.m) ∧ w'.cell? ⟨nb, 3, none⟩ = some (.int .i64 a.k)) (exact K.out.cells)
          (first
            | (go_at_call 13; (with_reducible refine (L1.out _ K.out.x.env).mono ?_); rintro e w3 ⟨rfl, hb3⟩; replace K := Lib.hid (K.out.next hb3); clear hb3)
            | (go_at_call 12; (with_reducible refine (L2.out _ K.out.x.env).mono ?_); rintro e w3 ⟨rfl, hb3⟩; replace K := Lib.hid (K.out.next hb3); clear hb3))
        all_goals (go_wp2_with fail; go_meet; exact ⟨rfl, K.out⟩)
      · have HAB := Lib.hid hab
        have hss : (s2.toList == s.toList) = false := str_eq_no (fun e => HAB.out (text_inj PA.out PB.out (HS.out.trans (e.symm.trans HS2.out.symm))))
        clear hab
        rcases C4.ne_cases HAB.out with g0 | ⟨g0, g1⟩ | ⟨g0, g1, g2⟩ | ⟨g0, g1, g2, g3⟩
        · have K := Lib.hid K1.out.drew
          go_region_held3 (fun w' => w'.cell? ⟨na, 0, none⟩ = some (.int .i64 a.i) ∧ w'.cell? ⟨na, 1, none⟩ = some (.int .i64 a.s) ∧ w'.cell? ⟨na, 2, none⟩ = some (.int .i64 a.m) ∧ w'.cell? ⟨na, 3, none⟩ = some (.int .i64 a.k) ∧ w'.cell? ⟨nb, 0, none⟩ = some (.int .i64 b.i) ∧ w'.cell? ⟨nb, 1, none⟩ = some (.int .i64 b.s) ∧ w'.cell? ⟨nb, 2, none⟩ = some (.int .i64 b.m) ∧ w'.cell? ⟨nb, 3, none⟩ = some (.int .i64 b.k)) (exact K.out.cells)
            (first
              | (go_at_call 13; (with_reducible refine (L1.out _ K.out.x.env).mono ?_); rintro e w3 ⟨rfl, hb3⟩; replace K := Lib.hid (K.out.next hb3); clear hb3)
              | (go_at_call 12; (with_reducible refine (L2.out _ K.out.x.env).mono ?_); rintro e w3 ⟨rfl, hb3⟩; replace K := Lib.hid (K.out.next hb3); clear hb3))
          all_goals (go_wp2_with fail; go_meet; exact ⟨rfl, K.out⟩)
        · have K := Lib.hid K1.out.drew
          go_region_held3 (fun w' => w'.cell? ⟨na, 0, none⟩ = some (.int .i64 a.i) ∧ w'.cell? ⟨na, 1, none⟩ = some (.int .i64 a.s) ∧ w'.cell? ⟨na, 2, none⟩ = some (.int .i64 a.m) ∧ w'.cell? ⟨na, 3, none⟩ = some (.int .i64 a.k) ∧ w'.cell? ⟨nb, 0, none⟩ = some (.int .i64 b.i) ∧ w'.cell? ⟨nb, 1, none⟩ = some (.int .i64 b.s) ∧ w'.cell? ⟨nb, 2, none⟩ = some (.int .i64 b.m) ∧ w'.cell? ⟨nb, 3, none⟩ = some (.int .i64 b.k)) (exact K.out.cells)
            (first
              | (go_at_call 13; (with_reducible refine (L1.out _ K.out.x.env).mono ?_); rintro e w3 ⟨rfl, hb3⟩; replace K := Lib.hid (K.out.next hb3); clear hb3)
              | (go_at_call 12; (with_reducible refine (L2.out _ K.out.x.env).mono ?_); rintro e w3 ⟨rfl, hb3⟩; replace K := Lib.hid (K.out.next hb3); clear hb3))
          all_goals (go_wp2_with fail; go_meet; exact ⟨rfl, K.out⟩)
        · have K := Lib.hid K1.out.drew
          go_region_held3 (fun w' => w'.cell? ⟨na, 0, none⟩ = some (.int .i64 a.i) ∧ w'.cell? ⟨na, 1, none⟩ = some (.int .i64 a.s) ∧ w'.cell? ⟨na, 2, none⟩ = some (.int .i64 a.m) ∧ w'.cell? ⟨na, 3, none⟩ = some (.int .i64 a.k) ∧ w'.cell? ⟨nb, 0, none⟩ = some (.int .i64 b.i) ∧ w'.cell? ⟨nb, 1, none⟩ = some (.int .i64 b.s) ∧ w'.cell? ⟨nb, 2, none⟩ = some (.int .i64 b.m) ∧ w'.cell? ⟨nb, 3, none⟩ = some (.int .i64 b.k)) (exact K.out.cells)
            (first
              | (go_at_call 13; (with_reducible refine (L1.out _ K.out.x.env).mono ?_); rintro e w3 ⟨rfl, hb3⟩; replace K := Lib.hid (K.out.next hb3); clear hb3)
              | (go_at_call 12; (with_reducible refine (L2.out _ K.out.x.env).mono ?_); rintro e w3 ⟨rfl, hb3⟩; replace K := Lib.hid (K.out.next hb3); clear hb3))
          all_goals (go_wp2_with fail; go_meet; exact ⟨rfl, K.out⟩)
        · have K := Lib.hid K1.out.drew
          go_region_held3 (fun w' => w'.cell? ⟨na, 0, none⟩ = some (.int .i64 a.i) ∧ w'.cell? ⟨na, 1, none⟩ = some (.int .i64 a.s) ∧ w'.cell? ⟨na, 2, none⟩ = some (.int .i64 a.m) ∧ w'.cell? ⟨na, 3, none⟩ = some (.int .i64 a.k) ∧ w'.cell? ⟨nb, 0, none⟩ = some (.int .i64 b.i) ∧ w'.cell? ⟨nb, 1, none⟩ = some (.int .i64 b.s) ∧ w'.cell? ⟨nb, 2, none⟩ = some (.int .i64 b.m) ∧ w'.cell? ⟨nb, 3, none⟩ = some (.int .i64 b.k)) (exact K.out.cells)
            (first
              | (go_at_call 13; (with_reducible refine (L1.out _ K.out.x.env).mono ?_); rintro e w3 ⟨rfl, hb3⟩; replace K := Lib.hid (K.out.next hb3); clear hb3)
              | (go_at_call 12; (with_reducible refine (L2.out _ K.out.x.env).mono ?_); rintro e w3 ⟨rfl, hb3⟩; replace K := Lib.hid (K.out.next hb3); clear hb3))
          all_goals (go_wp2_with fail; go_meet; exact ⟨rfl, K.out⟩)
    case rest =>
      obtain ⟨rfl, hst⟩ := hcut
      have K1 := Lib.hid hst
      clear hst L1 L2
      have d0 := K1.out.x.d0
      have d1 := K1.out.x.d1
      have hsz : (0 : Int) < (s.size : Int) := by omega
      go_wp2_with fail
      obtain ⟨k, hk, hk1⟩ : ∃ k : Nat, v0 % (s.size : Int) = (k : Int) ∧ k < s.size := by
        have h1 := Int.emod_nonneg v0 (b := (s.size : Int)) (by omega)
        have h2 := Int.emod_lt_of_pos v0 hsz
        exact ⟨(v0 % (s.size : Int)).toNat, by omega, by omega⟩
      rw [hk]
      clear hk
      have hwr : IntKind.i64.wrap ((k : Int) + 1) = (k : Int) + 1 := IntWalk.i64_in _ (by omega)
      have q0 : (0 : Int) ≤ (k : Int) := by omega
      have q1 : (k : Int) ≤ (s.size : Int) := by omega
      have q2 : (0 : Int) ≤ (k : Int) + 1 := by omega
      have q3 : (k : Int) + 1 ≤ (s.size : Int) := by omega
      have q4 : ((k : Int) + 1).toNat = k + 1 := by omega
      have q5 : k ≤ s.size := by omega
      have q6 : k + 1 ≤ s.size := by omega
      clear q0 q1 q2 q3 q4 q5 q6 d0 d1 hwr
      go_cut [10] (fun v wx => (∃ n, L5 v (turn0 s k cb) (turn1 s k) (turn2 s k cb) (s ++ s) (s.extract 0 k) n wx) ∧ TSt (.int .i64 x0) (.int .i64 x1) (.int .i64 x2) (.int .i64 x3) (.int .i64 x4) (.int .i64 x5) (.int .i64 x6) (.int .i64 x7) (.int .u8 v0) (.int .u8 (cb.toNat : Int)) (.int .u8 v2) w na nb a b wx)
      case first =>
        refine wp_region_inv (fun D a0 w' => ∃ t50 t51 t52 t53 t54 t55 t56 t57 t58 t59 t60 t61 t62 t63 t64 t65 t66 t67 t68 t69 t70 t71 t72 t73 t74 t75 t76 t77 t78 t79 t80 t81 t82 t83 t84 t85 t86 t87 t88 t89 t10 : Value, a0 = ({ tmps := #[.agg #[.int .i64 x0, .int .i64 x1, .int .i64 x2, .int .i64 x3, .int .i64 x4, .int .i64 x5, .int .i64 x6, .int .i64 x7], .agg #[.int .u8 v0, .int .u8 (cb.toNat : Int), .int .u8 v2], .pointer (some ⟨w.heap.size, 0, none⟩), .pointer (some ⟨w.heap.size + 1, 0, none⟩), .bool false, .bool true, .pointer (some ⟨na, 0, none⟩), .pointer (some ⟨nb, 0, none⟩), .string s, .int .i64 (k : Int), t10, undef, undef, u13, u14, u15, u16, u17, u18, u19, u20, u21, u22, u23, u24, u25, u26, u27, u28, u29, u30, u31, u32, u33, u34, u35, u36, u37, u38, u39, u40, u41, u42, .bool false, .pointer (some ⟨w.heap.size + 1, 0, none⟩), .int .u8 v0, .int .i64 v0, .string s, .int .i64 (s.size : Int), .int .i64 (k : Int), t50, t51, t52, t53, t54, t55, t56, t57, t58, t59, t60, t61, t62, t63, t64, t65, t66, t67, t68, t69, t70, t71, t72, t73, t74, t75, t76, t77, t78, t79, t80, t81, t82, t83, t84, t85, t86, t87, t88, t89, u90, u91, u92, u93, u94, u95, u96, u97, u98, u99, u100, u101, u102, u103, u104, u105, u106, u107, u108, u109, u110, u111, u112, u113, u114, u115, u116, u117, u118, u119, u120, u121, u122, u123, u124, u125, u126, u127, u128, u129, u130], defers := [] } : Act) ∧ TSt (.int .i64 x0) (.int .i64 x1) (.int .i64 x2) (.int .i64 x3) (.int .i64 x4) (.int .i64 x5) (.int .i64 x6) (.int .i64 x7) (.int .u8 v0) (.int .u8 (cb.toNat : Int)) (.int .u8 v2) w na nb a b w' ∧ R9 D (w.heap.size + 1) s k cb t50 t51 t52 t53 t54 t55 t56 t57 t58 t59 t60 t61 t62 t63 t64 t65 t66 t67 t68 t69 t70 t71 t72 t73 t74 t75 t76 t77 t78 t79 t80 t81 t82 t83 t84 t85 t86 t87 t88 t89 t10 w') (by kernel_rfl) ?_ ?_ ?_ ?_
        · exact ⟨u50, u51, u52, u53, u54, u55, u56, u57, u58, u59, u60, u61, u62, u63, u64, u65, u66, u67, u68, u69, u70, u71, u72, u73, u74, u75, u76, u77, u78, u79, u80, u81, u82, u83, u84, u85, u86, u87, u88, u89, undef, rfl, K1.out.drew, ⟨(fun e => by cases e), (fun e => by cases e), (fun e => by cases e), (fun e => by cases e), (fun e => by cases e), (fun e => by cases e), (fun e => by cases e), (fun e => by cases e), (fun e => by cases e), (fun e => by cases e), (fun e => by cases e), (fun e => by cases e), (fun e => by cases e), (fun e => by cases e), (fun e => by cases e), (fun e => by cases e), (fun e => by cases e), (fun e => by cases e), (fun e => by cases e), (fun e => by cases e), (fun e => by cases e), (fun e => by cases e), (fun e => by cases e), (fun e => by cases e), (fun e => by cases e), (fun e => by cases e), (fun e => by cases e), (fun e => by cases e), (fun e => by cases e), (fun e => by cases e), (fun e => by cases e), (fun e => by cases e), (fun e => by cases e), (fun e => by cases e), (fun e => by cases e), (fun e => by cases e), (fun e => by cases e), (fun e => by cases e), (fun e => by cases e), (fun e => by cases e), (fun e => by cases e)⟩⟩
        · rintro D a0 w' i o hi hD he ⟨t50, t51, t52, t53, t54, t55, t56, t57, t58, t59, t60, t61, t62, t63, t64, t65, t66, t67, t68, t69, t70, t71, t72, t73, t74, t75, t76, t77, t78, t79, t80, t81, t82, t83, t84, t85, t86, t87, t88, t89, t10, rfl, hst, H⟩ K hK
          have hi41 : i < 41 := by
            refine Decidable.byContradiction fun h => ?_
            rw [Array.getElem?_eq_none (by simp; omega)] at hi
            cases hi
          rcases (by omega : i = 0 ∨ i = 1 ∨ i = 2 ∨ i = 3 ∨ i = 4 ∨ i = 5 ∨ i = 6 ∨ i = 7 ∨ i = 8 ∨ i = 9 ∨ i = 10 ∨ i = 11 ∨ i = 12 ∨ i = 13 ∨ i = 14 ∨ i = 15 ∨ i = 16 ∨ i = 17 ∨ i = 18 ∨ i = 19 ∨ i = 20 ∨ i = 21 ∨ i = 22 ∨ i = 23 ∨ i = 24 ∨ i = 25 ∨ i = 26 ∨ i = 27 ∨ i = 28 ∨ i = 29 ∨ i = 30 ∨ i = 31 ∨ i = 32 ∨ i = 33 ∨ i = 34 ∨ i = 35 ∨ i = 36 ∨ i = 37 ∨ i = 38 ∨ i = 39 ∨ i = 40) with rfl | rfl | rfl | rfl | rfl | rfl | rfl | rfl | rfl | rfl | rfl | rfl | rfl | rfl | rfl | rfl | rfl | rfl | rfl | rfl | rfl | rfl | rfl | rfl | rfl | rfl | rfl | rfl | rfl | rfl | rfl | rfl | rfl | rfl | rfl | rfl | rfl | rfl | rfl | rfl | rfl <;> cases hi <;> refine wpOp_plain rfl rfl ?_
          · go_simp
            exact hK _ _ ⟨_, _, _, _, _, _, _, _, _, _, _, _, _, _, _, _, _, _, _, _, _, _, _, _, _, _, _, _, _, _, _, _, _, _, _, _, _, _, _, _, _, rfl, hst, ⟨fun _ => rfl, H.f1, H.f2, H.f3, H.f4, H.f5, H.f6, H.f7, H.f8, H.f9, H.f10, H.f11, H.f12, H.f13, H.f14, H.f15, H.f16, H.f17, H.f18, H.f19, H.f20, H.f21, H.f22, H.f23, H.f24, H.f25, H.f26, H.f27, H.f28, H.f29, H.f30, H.f31, H.f32, H.f33, H.f34, H.f35, H.f36, H.f37, H.f38, H.f39, H.f40⟩⟩
          · go_simp
            exact hK _ _ ⟨_, _, _, _, _, _, _, _, _, _, _, _, _, _, _, _, _, _, _, _, _, _, _, _, _, _, _, _, _, _, _, _, _, _, _, _, _, _, _, _, _, rfl, hst, ⟨H.f0, fun _ => rfl, H.f2, H.f3, H.f4, H.f5, H.f6, H.f7, H.f8, H.f9, H.f10, H.f11, H.f12, H.f13, H.f14, H.f15, H.f16, H.f17, H.f18, H.f19, H.f20, H.f21, H.f22, H.f23, H.f24, H.f25, H.f26, H.f27, H.f28, H.f29, H.f30, H.f31, H.f32, H.f33, H.f34, H.f35, H.f36, H.f37, H.f38, H.f39, H.f40⟩⟩
          · obtain rfl := H.f0 (he ⟨0, .data⟩ (by simp) rfl)
            obtain rfl := H.f1 (he ⟨1, .data⟩ (by simp) rfl)
            have q0 : (0 : Int) ≤ (k : Int) := by omega
            have q1 : (k : Int) ≤ (s.size : Int) := by omega
            have q5 : k ≤ s.size := by omega
            go_simp
            exact hK _ _ ⟨_, _, _, _, _, _, _, _, _, _, _, _, _, _, _, _, _, _, _, _, _, _, _, _, _, _, _, _, _, _, _, _, _, _, _, _, _, _, _, _, _, rfl, hst, ⟨H.f0, H.f1, fun _ => rfl, H.f3, H.f4, H.f5, H.f6, H.f7, H.f8, H.f9, H.f10, H.f11, H.f12, H.f13, H.f14, H.f15, H.f16, H.f17, H.f18, H.f19, H.f20, H.f21, H.f22, H.f23, H.f24, H.f25, H.f26, H.f27, H.f28, H.f29, H.f30, H.f31, H.f32, H.f33, H.f34, H.f35, H.f36, H.f37, H.f38, H.f39, H.f40⟩⟩
          · go_simp
            exact hK _ _ ⟨_, _, _, _, _, _, _, _, _, _, _, _, _, _, _, _, _, _, _, _, _, _, _, _, _, _, _, _, _, _, _, _, _, _, _, _, _, _, _, _, _, rfl, hst, ⟨H.f0, H.f1, H.f2, fun _ => rfl, H.f4, H.f5, H.f6, H.f7, H.f8, H.f9, H.f10, H.f11, H.f12, H.f13, H.f14, H.f15, H.f16, H.f17, H.f18, H.f19, H.f20, H.f21, H.f22, H.f23, H.f24, H.f25, H.f26, H.f27, H.f28, H.f29, H.f30, H.f31, H.f32, H.f33, H.f34, H.f35, H.f36, H.f37, H.f38, H.f39, H.f40⟩⟩
          · obtain rfl := H.f3 (he ⟨3, .data⟩ (by simp) rfl)
            have d1 := hst.x.d1
            go_simp
            exact hK _ _ ⟨_, _, _, _, _, _, _, _, _, _, _, _, _, _, _, _, _, _, _, _, _, _, _, _, _, _, _, _, _, _, _, _, _, _, _, _, _, _, _, _, _, rfl, hst, ⟨H.f0, H.f1, H.f2, H.f3, fun _ => rfl, H.f5, H.f6, H.f7, H.f8, H.f9, H.f10, H.f11, H.f12, H.f13, H.f14, H.f15, H.f16, H.f17, H.f18, H.f19, H.f20, H.f21, H.f22, H.f23, H.f24, H.f25, H.f26, H.f27, H.f28, H.f29, H.f30, H.f31, H.f32, H.f33, H.f34, H.f35, H.f36, H.f37, H.f38, H.f39, H.f40⟩⟩
          · obtain rfl := H.f4 (he ⟨4, .data⟩ (by simp) rfl)
            go_simp
            exact hK _ _ ⟨_, _, _, _, _, _, _, _, _, _, _, _, _, _, _, _, _, _, _, _, _, _, _, _, _, _, _, _, _, _, _, _, _, _, _, _, _, _, _, _, _, rfl, hst.next ((Below.refl _ _).alloc (Nat.le_refl _) _), ⟨H.f0, H.f1, H.f2, H.f3, H.f4, fun _ => ⟨_, rfl, ⟨by simp, by simp⟩⟩, H.f6, H.f7, H.f8, H.f9, H.f10, H.f11, H.f12, H.f13, H.f14, H.f15, H.f16, H.f17, H.f18, H.f19, H.f20, H.f21, H.f22, H.f23, H.f24, H.f25, fun e => (H.f26 e).imp fun _ h => ⟨h.1, h.2.next ((Below.refl _ _).alloc (Nat.le_refl _) _)⟩, H.f27, H.f28, H.f29, H.f30, H.f31, H.f32, H.f33, H.f34, H.f35, H.f36, H.f37, H.f38, fun e => (H.f39 e).imp fun _ h => h.next ((Below.refl _ _).alloc (Nat.le_refl _) _), fun e => (H.f40 e).imp fun _ h => h.next ((Below.refl _ _).alloc (Nat.le_refl _) _)⟩⟩
          · obtain ⟨n5, rfl, h5⟩ := H.f5 (he ⟨5, .data⟩ (by simp) rfl)
            have hcv := conv1 cb n5 w' h5.c
            go_simp
            exact hK _ _ ⟨_, _, _, _, _, _, _, _, _, _, _, _, _, _, _, _, _, _, _, _, _, _, _, _, _, _, _, _, _, _, _, _, _, _, _, _, _, _, _, _, _, rfl, hst, ⟨H.f0, H.f1, H.f2, H.f3, H.f4, H.f5, fun _ => rfl, H.f7, H.f8, H.f9, H.f10, H.f11, H.f12, H.f13, H.f14, H.f15, H.f16, H.f17, H.f18, H.f19, H.f20, H.f21, H.f22, H.f23, H.f24, H.f25, H.f26, H.f27, H.f28, H.f29, H.f30, H.f31, H.f32, H.f33, H.f34, H.f35, H.f36, H.f37, H.f38, H.f39, H.f40⟩⟩
          · obtain rfl := H.f2 (he ⟨2, .data⟩ (by simp) rfl)
            obtain rfl := H.f6 (he ⟨6, .data⟩ (by simp) rfl)
            have q5 : k ≤ s.size := by omega
            have z1 : ¬ 9223372036854775807 < k + 1 := by omega
            go_simp
            exact hK _ _ ⟨_, _, _, _, _, _, _, _, _, _, _, _, _, _, _, _, _, _, _, _, _, _, _, _, _, _, _, _, _, _, _, _, _, _, _, _, _, _, _, _, _, rfl, hst, ⟨H.f0, H.f1, H.f2, H.f3, H.f4, H.f5, H.f6, fun _ => rfl, H.f8, H.f9, H.f10, H.f11, H.f12, H.f13, H.f14, H.f15, H.f16, H.f17, H.f18, H.f19, H.f20, H.f21, H.f22, H.f23, H.f24, H.f25, H.f26, H.f27, H.f28, H.f29, H.f30, H.f31, H.f32, H.f33, H.f34, H.f35, H.f36, H.f37, H.f38, H.f39, H.f40⟩⟩
          · go_simp
            exact hK _ _ ⟨_, _, _, _, _, _, _, _, _, _, _, _, _, _, _, _, _, _, _, _, _, _, _, _, _, _, _, _, _, _, _, _, _, _, _, _, _, _, _, _, _, rfl, hst, ⟨H.f0, H.f1, H.f2, H.f3, H.f4, H.f5, H.f6, H.f7, fun _ => rfl, H.f9, H.f10, H.f11, H.f12, H.f13, H.f14, H.f15, H.f16, H.f17, H.f18, H.f19, H.f20, H.f21, H.f22, H.f23, H.f24, H.f25, H.f26, H.f27, H.f28, H.f29, H.f30, H.f31, H.f32, H.f33, H.f34, H.f35, H.f36, H.f37, H.f38, H.f39, H.f40⟩⟩
          · go_simp
            exact hK _ _ ⟨_, _, _, _, _, _, _, _, _, _, _, _, _, _, _, _, _, _, _, _, _, _, _, _, _, _, _, _, _, _, _, _, _, _, _, _, _, _, _, _, _, rfl, hst, ⟨H.f0, H.f1, H.f2, H.f3, H.f4, H.f5, H.f6, H.f7, H.f8, fun _ => rfl, H.f10, H.f11, H.f12, H.f13, H.f14, H.f15, H.f16, H.f17, H.f18, H.f19, H.f20, H.f21, H.f22, H.f23, H.f24, H.f25, H.f26, H.f27, H.f28, H.f29, H.f30, H.f31, H.f32, H.f33, H.f34, H.f35, H.f36, H.f37, H.f38, H.f39, H.f40⟩⟩
          · obtain rfl := H.f9 (he ⟨9, .data⟩ (by simp) rfl)
            have hwr : IntKind.i64.wrap ((k : Int) + 1) = (k : Int) + 1 := IntWalk.i64_in _ (by omega)
            go_simp
            exact hK _ _ ⟨_, _, _, _, _, _, _, _, _, _, _, _, _, _, _, _, _, _, _, _, _, _, _, _, _, _, _, _, _, _, _, _, _, _, _, _, _, _, _, _, _, rfl, hst, ⟨H.f0, H.f1, H.f2, H.f3, H.f4, H.f5, H.f6, H.f7, H.f8, H.f9, fun _ => rfl, H.f11, H.f12, H.f13, H.f14, H.f15, H.f16, H.f17, H.f18, H.f19, H.f20, H.f21, H.f22, H.f23, H.f24, H.f25, H.f26, H.f27, H.f28, H.f29, H.f30, H.f31, H.f32, H.f33, H.f34, H.f35, H.f36, H.f37, H.f38, H.f39, H.f40⟩⟩
          · obtain rfl := H.f8 (he ⟨8, .data⟩ (by simp) rfl)
            obtain rfl := H.f10 (he ⟨10, .data⟩ (by simp) rfl)
            have q2 : (0 : Int) ≤ (k : Int) + 1 := by omega
            have q3 : (k : Int) + 1 ≤ (s.size : Int) := by omega
            have q4 : ((k : Int) + 1).toNat = k + 1 := by omega
            have q6 : k + 1 ≤ s.size := by omega
            go_simp
            exact hK _ _ ⟨_, _, _, _, _, _, _, _, _, _, _, _, _, _, _, _, _, _, _, _, _, _, _, _, _, _, _, _, _, _, _, _, _, _, _, _, _, _, _, _, _, rfl, hst, ⟨H.f0, H.f1, H.f2, H.f3, H.f4, H.f5, H.f6, H.f7, H.f8, H.f9, H.f10, fun _ => rfl, H.f12, H.f13, H.f14, H.f15, H.f16, H.f17, H.f18, H.f19, H.f20, H.f21, H.f22, H.f23, H.f24, H.f25, H.f26, H.f27, H.f28, H.f29, H.f30, H.f31, H.f32, H.f33, H.f34, H.f35, H.f36, H.f37, H.f38, H.f39, H.f40⟩⟩
          · obtain rfl := H.f7 (he ⟨7, .data⟩ (by simp) rfl)
            obtain rfl := H.f11 (he ⟨11, .data⟩ (by simp) rfl)
            have q5 : k ≤ s.size := by omega
            have z1 : ¬ 9223372036854775807 < k + 1 + (s.size - (k + 1)) := by omega
            go_simp
            exact hK _ _ ⟨_, _, _, _, _, _, _, _, _, _, _, _, _, _, _, _, _, _, _, _, _, _, _, _, _, _, _, _, _, _, _, _, _, _, _, _, _, _, _, _, _, rfl, hst, ⟨H.f0, H.f1, H.f2, H.f3, H.f4, H.f5, H.f6, H.f7, H.f8, H.f9, H.f10, H.f11, fun _ => rfl, H.f13, H.f14, H.f15, H.f16, H.f17, H.f18, H.f19, H.f20, H.f21, H.f22, H.f23, H.f24, H.f25, H.f26, H.f27, H.f28, H.f29, H.f30, H.f31, H.f32, H.f33, H.f34, H.f35, H.f36, H.f37, H.f38, H.f39, H.f40⟩⟩
          · go_simp
            exact hK _ _ ⟨_, _, _, _, _, _, _, _, _, _, _, _, _, _, _, _, _, _, _, _, _, _, _, _, _, _, _, _, _, _, _, _, _, _, _, _, _, _, _, _, _, rfl, hst, ⟨H.f0, H.f1, H.f2, H.f3, H.f4, H.f5, H.f6, H.f7, H.f8, H.f9, H.f10, H.f11, H.f12, fun _ => rfl, H.f14, H.f15, H.f16, H.f17, H.f18, H.f19, H.f20, H.f21, H.f22, H.f23, H.f24, H.f25, H.f26, H.f27, H.f28, H.f29, H.f30, H.f31, H.f32, H.f33, H.f34, H.f35, H.f36, H.f37, H.f38, H.f39, H.f40⟩⟩
          · go_simp
            exact hK _ _ ⟨_, _, _, _, _, _, _, _, _, _, _, _, _, _, _, _, _, _, _, _, _, _, _, _, _, _, _, _, _, _, _, _, _, _, _, _, _, _, _, _, _, rfl, hst, ⟨H.f0, H.f1, H.f2, H.f3, H.f4, H.f5, H.f6, H.f7, H.f8, H.f9, H.f10, H.f11, H.f12, H.f13, fun _ => rfl, H.f15, H.f16, H.f17, H.f18, H.f19, H.f20, H.f21, H.f22, H.f23, H.f24, H.f25, H.f26, H.f27, H.f28, H.f29, H.f30, H.f31, H.f32, H.f33, H.f34, H.f35, H.f36, H.f37, H.f38, H.f39, H.f40⟩⟩
          · obtain rfl := H.f13 (he ⟨13, .data⟩ (by simp) rfl)
            obtain rfl := H.f14 (he ⟨14, .data⟩ (by simp) rfl)
            have q0 : (0 : Int) ≤ (k : Int) := by omega
            have q1 : (k : Int) ≤ (s.size : Int) := by omega
            have q5 : k ≤ s.size := by omega
            go_simp
            exact hK _ _ ⟨_, _, _, _, _, _, _, _, _, _, _, _, _, _, _, _, _, _, _, _, _, _, _, _, _, _, _, _, _, _, _, _, _, _, _, _, _, _, _, _, _, rfl, hst, ⟨H.f0, H.f1, H.f2, H.f3, H.f4, H.f5, H.f6, H.f7, H.f8, H.f9, H.f10, H.f11, H.f12, H.f13, H.f14, fun _ => rfl, H.f16, H.f17, H.f18, H.f19, H.f20, H.f21, H.f22, H.f23, H.f24, H.f25, H.f26, H.f27, H.f28, H.f29, H.f30, H.f31, H.f32, H.f33, H.f34, H.f35, H.f36, H.f37, H.f38, H.f39, H.f40⟩⟩
          · go_simp
            exact hK _ _ ⟨_, _, _, _, _, _, _, _, _, _, _, _, _, _, _, _, _, _, _, _, _, _, _, _, _, _, _, _, _, _, _, _, _, _, _, _, _, _, _, _, _, rfl, hst, ⟨H.f0, H.f1, H.f2, H.f3, H.f4, H.f5, H.f6, H.f7, H.f8, H.f9, H.f10, H.f11, H.f12, H.f13, H.f14, H.f15, fun _ => rfl, H.f17, H.f18, H.f19, H.f20, H.f21, H.f22, H.f23, H.f24, H.f25, H.f26, H.f27, H.f28, H.f29, H.f30, H.f31, H.f32, H.f33, H.f34, H.f35, H.f36, H.f37, H.f38, H.f39, H.f40⟩⟩
          · go_simp
            exact hK _ _ ⟨_, _, _, _, _, _, _, _, _, _, _, _, _, _, _, _, _, _, _, _, _, _, _, _, _, _, _, _, _, _, _, _, _, _, _, _, _, _, _, _, _, rfl, hst, ⟨H.f0, H.f1, H.f2, H.f3, H.f4, H.f5, H.f6, H.f7, H.f8, H.f9, H.f10, H.f11, H.f12, H.f13, H.f14, H.f15, H.f16, fun _ => rfl, H.f18, H.f19, H.f20, H.f21, H.f22, H.f23, H.f24, H.f25, H.f26, H.f27, H.f28, H.f29, H.f30, H.f31, H.f32, H.f33, H.f34, H.f35, H.f36, H.f37, H.f38, H.f39, H.f40⟩⟩
          · obtain rfl := H.f17 (he ⟨17, .data⟩ (by simp) rfl)
            have hwr : IntKind.i64.wrap ((k : Int) + 1) = (k : Int) + 1 := IntWalk.i64_in _ (by omega)
            go_simp
            exact hK _ _ ⟨_, _, _, _, _, _, _, _, _, _, _, _, _, _, _, _, _, _, _, _, _, _, _, _, _, _, _, _, _, _, _, _, _, _, _, _, _, _, _, _, _, rfl, hst, ⟨H.f0, H.f1, H.f2, H.f3, H.f4, H.f5, H.f6, H.f7, H.f8, H.f9, H.f10, H.f11, H.f12, H.f13, H.f14, H.f15, H.f16, H.f17, fun _ => rfl, H.f19, H.f20, H.f21, H.f22, H.f23, H.f24, H.f25, H.f26, H.f27, H.f28, H.f29, H.f30, H.f31, H.f32, H.f33, H.f34, H.f35, H.f36, H.f37, H.f38, H.f39, H.f40⟩⟩
          · obtain rfl := H.f16 (he ⟨16, .data⟩ (by simp) rfl)
            obtain rfl := H.f18 (he ⟨18, .data⟩ (by simp) rfl)
            have q2 : (0 : Int) ≤ (k : Int) + 1 := by omega
            have q3 : (k : Int) + 1 ≤ (s.size : Int) := by omega
            have q4 : ((k : Int) + 1).toNat = k + 1 := by omega
            have q6 : k + 1 ≤ s.size := by omega
            go_simp
            exact hK _ _ ⟨_, _, _, _, _, _, _, _, _, _, _, _, _, _, _, _, _, _, _, _, _, _, _, _, _, _, _, _, _, _, _, _, _, _, _, _, _, _, _, _, _, rfl, hst, ⟨H.f0, H.f1, H.f2, H.f3, H.f4, H.f5, H.f6, H.f7, H.f8, H.f9, H.f10, H.f11, H.f12, H.f13, H.f14, H.f15, H.f16, H.f17, H.f18, fun _ => rfl, H.f20, H.f21, H.f22, H.f23, H.f24, H.f25, H.f26, H.f27, H.f28, H.f29, H.f30, H.f31, H.f32, H.f33, H.f34, H.f35, H.f36, H.f37, H.f38, H.f39, H.f40⟩⟩
          · obtain rfl := H.f15 (he ⟨15, .data⟩ (by simp) rfl)
            obtain rfl := H.f19 (he ⟨19, .data⟩ (by simp) rfl)
            have q5 : k ≤ s.size := by omega
            have z1 : ¬ 9223372036854775807 < k + (s.size - (k + 1)) := by omega
            go_simp
            exact hK _ _ ⟨_, _, _, _, _, _, _, _, _, _, _, _, _, _, _, _, _, _, _, _, _, _, _, _, _, _, _, _, _, _, _, _, _, _, _, _, _, _, _, _, _, rfl, hst, ⟨H.f0, H.f1, H.f2, H.f3, H.f4, H.f5, H.f6, H.f7, H.f8, H.f9, H.f10, H.f11, H.f12, H.f13, H.f14, H.f15, H.f16, H.f17, H.f18, H.f19, fun _ => rfl, H.f21, H.f22, H.f23, H.f24, H.f25, H.f26, H.f27, H.f28, H.f29, H.f30, H.f31, H.f32, H.f33, H.f34, H.f35, H.f36, H.f37, H.f38, H.f39, H.f40⟩⟩
          · go_simp
            exact hK _ _ ⟨_, _, _, _, _, _, _, _, _, _, _, _, _, _, _, _, _, _, _, _, _, _, _, _, _, _, _, _, _, _, _, _, _, _, _, _, _, _, _, _, _, rfl, hst, ⟨H.f0, H.f1, H.f2, H.f3, H.f4, H.f5, H.f6, H.f7, H.f8, H.f9, H.f10, H.f11, H.f12, H.f13, H.f14, H.f15, H.f16, H.f17, H.f18, H.f19, H.f20, fun _ => rfl, H.f22, H.f23, H.f24, H.f25, H.f26, H.f27, H.f28, H.f29, H.f30, H.f31, H.f32, H.f33, H.f34, H.f35, H.f36, H.f37, H.f38, H.f39, H.f40⟩⟩
          · go_simp
            exact hK _ _ ⟨_, _, _, _, _, _, _, _, _, _, _, _, _, _, _, _, _, _, _, _, _, _, _, _, _, _, _, _, _, _, _, _, _, _, _, _, _, _, _, _, _, rfl, hst, ⟨H.f0, H.f1, H.f2, H.f3, H.f4, H.f5, H.f6, H.f7, H.f8, H.f9, H.f10, H.f11, H.f12, H.f13, H.f14, H.f15, H.f16, H.f17, H.f18, H.f19, H.f20, H.f21, fun _ => rfl, H.f23, H.f24, H.f25, H.f26, H.f27, H.f28, H.f29, H.f30, H.f31, H.f32, H.f33, H.f34, H.f35, H.f36, H.f37, H.f38, H.f39, H.f40⟩⟩
          · obtain rfl := H.f21 (he ⟨21, .data⟩ (by simp) rfl)
            obtain rfl := H.f22 (he ⟨22, .data⟩ (by simp) rfl)
            have q0 : (0 : Int) ≤ (k : Int) := by omega
            have q1 : (k : Int) ≤ (s.size : Int) := by omega
            have q5 : k ≤ s.size := by omega
            go_simp
            exact hK _ _ ⟨_, _, _, _, _, _, _, _, _, _, _, _, _, _, _, _, _, _, _, _, _, _, _, _, _, _, _, _, _, _, _, _, _, _, _, _, _, _, _, _, _, rfl, hst, ⟨H.f0, H.f1, H.f2, H.f3, H.f4, H.f5, H.f6, H.f7, H.f8, H.f9, H.f10, H.f11, H.f12, H.f13, H.f14, H.f15, H.f16, H.f17, H.f18, H.f19, H.f20, H.f21, H.f22, fun _ => rfl, H.f24, H.f25, H.f26, H.f27, H.f28, H.f29, H.f30, H.f31, H.f32, H.f33, H.f34, H.f35, H.f36, H.f37, H.f38, H.f39, H.f40⟩⟩
          · go_simp
            exact hK _ _ ⟨_, _, _, _, _, _, _, _, _, _, _, _, _, _, _, _, _, _, _, _, _, _, _, _, _, _, _, _, _, _, _, _, _, _, _, _, _, _, _, _, _, rfl, hst, ⟨H.f0, H.f1, H.f2, H.f3, H.f4, H.f5, H.f6, H.f7, H.f8, H.f9, H.f10, H.f11, H.f12, H.f13, H.f14, H.f15, H.f16, H.f17, H.f18, H.f19, H.f20, H.f21, H.f22, H.f23, fun _ => rfl, H.f25, H.f26, H.f27, H.f28, H.f29, H.f30, H.f31, H.f32, H.f33, H.f34, H.f35, H.f36, H.f37, H.f38, H.f39, H.f40⟩⟩
          · obtain rfl := H.f24 (he ⟨24, .data⟩ (by simp) rfl)
            have d1 := hst.x.d1
            go_simp
            exact hK _ _ ⟨_, _, _, _, _, _, _, _, _, _, _, _, _, _, _, _, _, _, _, _, _, _, _, _, _, _, _, _, _, _, _, _, _, _, _, _, _, _, _, _, _, rfl, hst, ⟨H.f0, H.f1, H.f2, H.f3, H.f4, H.f5, H.f6, H.f7, H.f8, H.f9, H.f10, H.f11, H.f12, H.f13, H.f14, H.f15, H.f16, H.f17, H.f18, H.f19, H.f20, H.f21, H.f22, H.f23, H.f24, fun _ => rfl, H.f26, H.f27, H.f28, H.f29, H.f30, H.f31, H.f32, H.f33, H.f34, H.f35, H.f36, H.f37, H.f38, H.f39, H.f40⟩⟩
          · obtain rfl := H.f25 (he ⟨25, .data⟩ (by simp) rfl)
            go_simp
            exact hK _ _ ⟨_, _, _, _, _, _, _, _, _, _, _, _, _, _, _, _, _, _, _, _, _, _, _, _, _, _, _, _, _, _, _, _, _, _, _, _, _, _, _, _, _, rfl, hst.next ((Below.refl _ _).alloc (Nat.le_refl _) _), ⟨H.f0, H.f1, H.f2, H.f3, H.f4, fun e => (H.f5 e).imp fun _ h => ⟨h.1, h.2.next ((Below.refl _ _).alloc (Nat.le_refl _) _)⟩, H.f6, H.f7, H.f8, H.f9, H.f10, H.f11, H.f12, H.f13, H.f14, H.f15, H.f16, H.f17, H.f18, H.f19, H.f20, H.f21, H.f22, H.f23, H.f24, H.f25, fun _ => ⟨_, rfl, ⟨by simp, by simp⟩⟩, H.f27, H.f28, H.f29, H.f30, H.f31, H.f32, H.f33, H.f34, H.f35, H.f36, H.f37, H.f38, fun e => (H.f39 e).imp fun _ h => h.next ((Below.refl _ _).alloc (Nat.le_refl _) _), fun e => (H.f40 e).imp fun _ h => h.next ((Below.refl _ _).alloc (Nat.le_refl _) _)⟩⟩
          · obtain ⟨n26, rfl, h26⟩ := H.f26 (he ⟨26, .data⟩ (by simp) rfl)
            have hcv := conv1 cb n26 w' h26.c
            go_simp
            exact hK _ _ ⟨_, _, _, _, _, _, _, _, _, _, _, _, _, _, _, _, _, _, _, _, _, _, _, _, _, _, _, _, _, _, _, _, _, _, _, _, _, _, _, _, _, rfl, hst, ⟨H.f0, H.f1, H.f2, H.f3, H.f4, H.f5, H.f6, H.f7, H.f8, H.f9, H.f10, H.f11, H.f12, H.f13, H.f14, H.f15, H.f16, H.f17, H.f18, H.f19, H.f20, H.f21, H.f22, H.f23, H.f24, H.f25, H.f26, fun _ => rfl, H.f28, H.f29, H.f30, H.f31, H.f32, H.f33, H.f34, H.f35, H.f36, H.f37, H.f38, H.f39, H.f40⟩⟩
          · obtain rfl := H.f23 (he ⟨23, .data⟩ (by simp) rfl)
            obtain rfl := H.f27 (he ⟨27, .data⟩ (by simp) rfl)
            have q5 : k ≤ s.size := by omega
            have z1 : ¬ 9223372036854775807 < k + 1 := by omega
            go_simp
            exact hK _ _ ⟨_, _, _, _, _, _, _, _, _, _, _, _, _, _, _, _, _, _, _, _, _, _, _, _, _, _, _, _, _, _, _, _, _, _, _, _, _, _, _, _, _, rfl, hst, ⟨H.f0, H.f1, H.f2, H.f3, H.f4, H.f5, H.f6, H.f7, H.f8, H.f9, H.f10, H.f11, H.f12, H.f13, H.f14, H.f15, H.f16, H.f17, H.f18, H.f19, H.f20, H.f21, H.f22, H.f23, H.f24, H.f25, H.f26, H.f27, fun _ => rfl, H.f29, H.f30, H.f31, H.f32, H.f33, H.f34, H.f35, H.f36, H.f37, H.f38, H.f39, H.f40⟩⟩
          · go_simp
            exact hK _ _ ⟨_, _, _, _, _, _, _, _, _, _, _, _, _, _, _, _, _, _, _, _, _, _, _, _, _, _, _, _, _, _, _, _, _, _, _, _, _, _, _, _, _, rfl, hst, ⟨H.f0, H.f1, H.f2, H.f3, H.f4, H.f5, H.f6, H.f7, H.f8, H.f9, H.f10, H.f11, H.f12, H.f13, H.f14, H.f15, H.f16, H.f17, H.f18, H.f19, H.f20, H.f21, H.f22, H.f23, H.f24, H.f25, H.f26, H.f27, H.f28, fun _ => rfl, H.f30, H.f31, H.f32, H.f33, H.f34, H.f35, H.f36, H.f37, H.f38, H.f39, H.f40⟩⟩
          · go_simp
            exact hK _ _ ⟨_, _, _, _, _, _, _, _, _, _, _, _, _, _, _, _, _, _, _, _, _, _, _, _, _, _, _, _, _, _, _, _, _, _, _, _, _, _, _, _, _, rfl, hst, ⟨H.f0, H.f1, H.f2, H.f3, H.f4, H.f5, H.f6, H.f7, H.f8, H.f9, H.f10, H.f11, H.f12, H.f13, H.f14, H.f15, H.f16, H.f17, H.f18, H.f19, H.f20, H.f21, H.f22, H.f23, H.f24, H.f25, H.f26, H.f27, H.f28, H.f29, fun _ => rfl, H.f31, H.f32, H.f33, H.f34, H.f35, H.f36, H.f37, H.f38, H.f39, H.f40⟩⟩
          · obtain rfl := H.f29 (he ⟨29, .data⟩ (by simp) rfl)
            obtain rfl := H.f30 (he ⟨30, .data⟩ (by simp) rfl)
            have q0 : (0 : Int) ≤ (k : Int) := by omega
            have q1 : (k : Int) ≤ (s.size : Int) := by omega
            have q5 : k ≤ s.size := by omega
            go_simp
            exact hK _ _ ⟨_, _, _, _, _, _, _, _, _, _, _, _, _, _, _, _, _, _, _, _, _, _, _, _, _, _, _, _, _, _, _, _, _, _, _, _, _, _, _, _, _, rfl, hst, ⟨H.f0, H.f1, H.f2, H.f3, H.f4, H.f5, H.f6, H.f7, H.f8, H.f9, H.f10, H.f11, H.f12, H.f13, H.f14, H.f15, H.f16, H.f17, H.f18, H.f19, H.f20, H.f21, H.f22, H.f23, H.f24, H.f25, H.f26, H.f27, H.f28, H.f29, H.f30, fun _ => rfl, H.f32, H.f33, H.f34, H.f35, H.f36, H.f37, H.f38, H.f39, H.f40⟩⟩
          · obtain rfl := H.f28 (he ⟨28, .data⟩ (by simp) rfl)
            obtain rfl := H.f31 (he ⟨31, .data⟩ (by simp) rfl)
            have q5 : k ≤ s.size := by omega
            have z1 : ¬ 9223372036854775807 < k + 1 + (s.size - k) := by omega
            go_simp
            exact hK _ _ ⟨_, _, _, _, _, _, _, _, _, _, _, _, _, _, _, _, _, _, _, _, _, _, _, _, _, _, _, _, _, _, _, _, _, _, _, _, _, _, _, _, _, rfl, hst, ⟨H.f0, H.f1, H.f2, H.f3, H.f4, H.f5, H.f6, H.f7, H.f8, H.f9, H.f10, H.f11, H.f12, H.f13, H.f14, H.f15, H.f16, H.f17, H.f18, H.f19, H.f20, H.f21, H.f22, H.f23, H.f24, H.f25, H.f26, H.f27, H.f28, H.f29, H.f30, H.f31, fun _ => rfl, H.f33, H.f34, H.f35, H.f36, H.f37, H.f38, H.f39, H.f40⟩⟩
          · go_simp
            exact hK _ _ ⟨_, _, _, _, _, _, _, _, _, _, _, _, _, _, _, _, _, _, _, _, _, _, _, _, _, _, _, _, _, _, _, _, _, _, _, _, _, _, _, _, _, rfl, hst, ⟨H.f0, H.f1, H.f2, H.f3, H.f4, H.f5, H.f6, H.f7, H.f8, H.f9, H.f10, H.f11, H.f12, H.f13, H.f14, H.f15, H.f16, H.f17, H.f18, H.f19, H.f20, H.f21, H.f22, H.f23, H.f24, H.f25, H.f26, H.f27, H.f28, H.f29, H.f30, H.f31, H.f32, fun _ => rfl, H.f34, H.f35, H.f36, H.f37, H.f38, H.f39, H.f40⟩⟩
          · go_simp
            exact hK _ _ ⟨_, _, _, _, _, _, _, _, _, _, _, _, _, _, _, _, _, _, _, _, _, _, _, _, _, _, _, _, _, _, _, _, _, _, _, _, _, _, _, _, _, rfl, hst, ⟨H.f0, H.f1, H.f2, H.f3, H.f4, H.f5, H.f6, H.f7, H.f8, H.f9, H.f10, H.f11, H.f12, H.f13, H.f14, H.f15, H.f16, H.f17, H.f18, H.f19, H.f20, H.f21, H.f22, H.f23, H.f24, H.f25, H.f26, H.f27, H.f28, H.f29, H.f30, H.f31, H.f32, H.f33, fun _ => rfl, H.f35, H.f36, H.f37, H.f38, H.f39, H.f40⟩⟩
          · obtain rfl := H.f33 (he ⟨33, .data⟩ (by simp) rfl)
            obtain rfl := H.f34 (he ⟨34, .data⟩ (by simp) rfl)
            have z1 : ¬ 9223372036854775807 < s.size + s.size := by omega
            go_simp
            exact hK _ _ ⟨_, _, _, _, _, _, _, _, _, _, _, _, _, _, _, _, _, _, _, _, _, _, _, _, _, _, _, _, _, _, _, _, _, _, _, _, _, _, _, _, _, rfl, hst, ⟨H.f0, H.f1, H.f2, H.f3, H.f4, H.f5, H.f6, H.f7, H.f8, H.f9, H.f10, H.f11, H.f12, H.f13, H.f14, H.f15, H.f16, H.f17, H.f18, H.f19, H.f20, H.f21, H.f22, H.f23, H.f24, H.f25, H.f26, H.f27, H.f28, H.f29, H.f30, H.f31, H.f32, H.f33, H.f34, fun _ => rfl, H.f36, H.f37, H.f38, H.f39, H.f40⟩⟩
          · go_simp
            exact hK _ _ ⟨_, _, _, _, _, _, _, _, _, _, _, _, _, _, _, _, _, _, _, _, _, _, _, _, _, _, _, _, _, _, _, _, _, _, _, _, _, _, _, _, _, rfl, hst, ⟨H.f0, H.f1, H.f2, H.f3, H.f4, H.f5, H.f6, H.f7, H.f8, H.f9, H.f10, H.f11, H.f12, H.f13, H.f14, H.f15, H.f16, H.f17, H.f18, H.f19, H.f20, H.f21, H.f22, H.f23, H.f24, H.f25, H.f26, H.f27, H.f28, H.f29, H.f30, H.f31, H.f32, H.f33, H.f34, H.f35, fun _ => rfl, H.f37, H.f38, H.f39, H.f40⟩⟩
          · go_simp
            exact hK _ _ ⟨_, _, _, _, _, _, _, _, _, _, _, _, _, _, _, _, _, _, _, _, _, _, _, _, _, _, _, _, _, _, _, _, _, _, _, _, _, _, _, _, _, rfl, hst, ⟨H.f0, H.f1, H.f2, H.f3, H.f4, H.f5, H.f6, H.f7, H.f8, H.f9, H.f10, H.f11, H.f12, H.f13, H.f14, H.f15, H.f16, H.f17, H.f18, H.f19, H.f20, H.f21, H.f22, H.f23, H.f24, H.f25, H.f26, H.f27, H.f28, H.f29, H.f30, H.f31, H.f32, H.f33, H.f34, H.f35, H.f36, fun _ => rfl, H.f38, H.f39, H.f40⟩⟩
          · obtain rfl := H.f36 (he ⟨36, .data⟩ (by simp) rfl)
            obtain rfl := H.f37 (he ⟨37, .data⟩ (by simp) rfl)
            have q0 : (0 : Int) ≤ (k : Int) := by omega
            have q1 : (k : Int) ≤ (s.size : Int) := by omega
            have q5 : k ≤ s.size := by omega
            go_simp
            exact hK _ _ ⟨_, _, _, _, _, _, _, _, _, _, _, _, _, _, _, _, _, _, _, _, _, _, _, _, _, _, _, _, _, _, _, _, _, _, _, _, _, _, _, _, _, rfl, hst, ⟨H.f0, H.f1, H.f2, H.f3, H.f4, H.f5, H.f6, H.f7, H.f8, H.f9, H.f10, H.f11, H.f12, H.f13, H.f14, H.f15, H.f16, H.f17, H.f18, H.f19, H.f20, H.f21, H.f22, H.f23, H.f24, H.f25, H.f26, H.f27, H.f28, H.f29, H.f30, H.f31, H.f32, H.f33, H.f34, H.f35, H.f36, H.f37, fun _ => rfl, H.f39, H.f40⟩⟩
          · obtain rfl := H.f12 (he ⟨12, .data⟩ (by simp) rfl)
            obtain rfl := H.f20 (he ⟨20, .data⟩ (by simp) rfl)
            obtain rfl := H.f32 (he ⟨32, .data⟩ (by simp) rfl)
            obtain rfl := H.f35 (he ⟨35, .data⟩ (by simp) rfl)
            obtain rfl := H.f38 (he ⟨38, .data⟩ (by simp) rfl)
            go_simp
            exact hK _ _ ⟨_, _, _, _, _, _, _, _, _, _, _, _, _, _, _, _, _, _, _, _, _, _, _, _, _, _, _, _, _, _, _, _, _, _, _, _, _, _, _, _, _, rfl, hst.next ((Below.refl _ _).alloc (Nat.le_refl _) _), ⟨H.f0, H.f1, H.f2, H.f3, H.f4, fun e => (H.f5 e).imp fun _ h => ⟨h.1, h.2.next ((Below.refl _ _).alloc (Nat.le_refl _) _)⟩, H.f6, H.f7, H.f8, H.f9, H.f10, H.f11, H.f12, H.f13, H.f14, H.f15, H.f16, H.f17, H.f18, H.f19, H.f20, H.f21, H.f22, H.f23, H.f24, H.f25, fun e => (H.f26 e).imp fun _ h => ⟨h.1, h.2.next ((Below.refl _ _).alloc (Nat.le_refl _) _)⟩, H.f27, H.f28, H.f29, H.f30, H.f31, H.f32, H.f33, H.f34, H.f35, H.f36, H.f37, H.f38, fun _ => ⟨_, ⟨rfl, by simp [turn0], by simp [turn1], by simp [turn2], by simp, by simp, by simp⟩⟩, fun e => (H.f40 e).imp fun _ h => h.next ((Below.refl _ _).alloc (Nat.le_refl _) _)⟩⟩
          · obtain ⟨n39, h39⟩ := H.f39 (he ⟨39, .data⟩ (by simp) rfl)
            obtain ⟨v39, g0, g1, g2, g3, g4, g5⟩ := h39
            subst v39
            go_simp
            exact hK _ _ ⟨_, _, _, _, _, _, _, _, _, _, _, _, _, _, _, _, _, _, _, _, _, _, _, _, _, _, _, _, _, _, _, _, _, _, _, _, _, _, _, _, _, rfl, hst, ⟨H.f0, H.f1, H.f2, H.f3, H.f4, H.f5, H.f6, H.f7, H.f8, H.f9, H.f10, H.f11, H.f12, H.f13, H.f14, H.f15, H.f16, H.f17, H.f18, H.f19, H.f20, H.f21, H.f22, H.f23, H.f24, H.f25, H.f26, H.f27, H.f28, H.f29, H.f30, H.f31, H.f32, H.f33, H.f34, H.f35, H.f36, H.f37, H.f38, H.f39, fun _ => ⟨_, ⟨rfl, g0, g1, g2, g3, g4, g5⟩⟩⟩⟩
        · exact back_of (by kernel_rfl)
        · rintro D a0 w' hall ⟨t50, t51, t52, t53, t54, t55, t56, t57, t58, t59, t60, t61, t62, t63, t64, t65, t66, t67, t68, t69, t70, t71, t72, t73, t74, t75, t76, t77, t78, t79, t80, t81, t82, t83, t84, t85, t86, t87, t88, t89, t10, rfl, hst, H⟩
          have h10 := H.f40 (hall 40 (by decide))
          clear H hall
          go_wp2_with fail
          go_meet
          exact ⟨h10, hst⟩
      case rest =>
        obtain ⟨⟨n, hl⟩, hst⟩ := hcut
        have HL := LT.of hl
        have hv := hl.v
        subst hv
        clear hl K1
        go_wp2_with fail
        go_loopw [11] (fun c wr => ∃ j : Nat, j ≤ 5 ∧ c = .int .i64 (j : Int) ∧ LT s k cb n wr ∧ TSt (.int .i64 x0) (.int .i64 x1) (.int .i64 x2) (.int .i64 x3) (.int .i64 x4) (.int .i64 x5) (.int .i64 x6) (.int .i64 x7) (.int .u8 v0) (.int .u8 (cb.toNat : Int)) (.int .u8 v2) w na nb a b wr) (fun c _ => 5 - (intOf c).toNat)
        case atStart => exact ⟨0, by omega, rfl, HL, hst⟩
        case round =>
          obtain ⟨j, hj, rfl, hL, hT⟩ := hrel
          by_cases hlt : j < 5
          · have hc := hL.c j hlt
            have hsx := txt_size s k cb hz1 hk1 j
            obtain ⟨x, hx⟩ : ∃ x, txt s k cb j = x := ⟨_, rfl⟩
            rw [hx] at hc hsx
            have q0 : (0 : Int) ≤ (j : Int) := by omega
            have q1 : (j : Int) < 5 := by omega
            have KL := Lib.hid hL
            have KT := Lib.hid hT
            have HX := Lib.hid hx
            clear hL hT hx
            rcases parse_cases x with ⟨c, hp, ht, hm⟩ | hm
            · have C1 := Lib.hid (parsedC x c 0 hm hsx)
              have C2 := Lib.hid (textC c x hp ht)
              clear hp ht hm
              go_wp2_with fail
              refine (C1.out _ KT.out.x.env).mono ?_
              rintro e w3 ⟨rfl, hb3⟩
              have KL2 := Lib.hid (KL.out.next hb3)
              have KT2 := Lib.hid (KT.out.next hb3)
              clear hb3 hc
              go_wp2_with fail
              have HP : P5 w3.heap.size c 0 (w3.alloc (.cells #[.int .i64 c.i, .int .i64 c.s, .int .i64 c.m, .int .i64 c.k, .int .i64 0] 38)) := ⟨by simp [C4.zero], by simp [C4.zero], by simp [C4.zero], by simp [C4.zero], by simp, by simp⟩
              have HL3 := KL2.out.next ((Below.refl _ w3).alloc (Nat.le_refl _) (.cells #[.int .i64 c.i, .int .i64 c.s, .int .i64 c.m, .int .i64 c.k, .int .i64 0] 38))
              have HT3 := KT2.out.next ((Below.refl _ w3).alloc (Nat.le_refl _) (.cells #[.int .i64 c.i, .int .i64 c.s, .int .i64 c.m, .int .i64 c.k, .int .i64 0] 38))
              generalize w3.alloc (.cells #[.int .i64 c.i, .int .i64 c.s, .int .i64 c.m, .int .i64 c.k, .int .i64 0] 38) = w4 at HP HL3 HT3 ⊢
              generalize w3.heap.size = nr at HP ⊢
              have KJ := Lib.hid (And.intro HP (And.intro HL3 HT3))
              clear HP HL3 HT3 KL2 KT2
              apply wp_region_kept (fun w' => P5 nr c 0 w' ∧ LT s k cb n w' ∧ TSt (.int .i64 x0) (.int .i64 x1) (.int .i64 x2) (.int .i64 x3) (.int .i64 x4) (.int .i64 x5) (.int .i64 x6) (.int .i64 x7) (.int .u8 v0) (.int .u8 (cb.toNat : Int)) (.int .u8 v2) w na nb a b w') (hm := by kernel_rfl) (hB := by kernel_rfl) (hb := by kernel_rfl) (hJ := ⟨KJ.out.1.next (Below.refl _ w4).drew, KJ.out.2.1.next (Below.refl _ w4).drew, KJ.out.2.2.drew⟩)
              · go_light
                repeat (first
                  | (apply keep_run
                     · go_simp
                     · unfold gives
                       intro w5 hw
                       have p0 := hw.1.c0
                       have p1 := hw.1.c1
                       have p2 := hw.1.c2
                       have p3 := hw.1.c3
                       have p4 := hw.1.c4
                       have l0 := hw.2.1.c j hlt
                       rw [HX.out] at l0
                       go_simp
                       first
                         | exact ⟨rfl, hw⟩
                         | rfl
                         | (go_at_call 12; (with_reducible refine (C2.out _ hw.2.2.x.env).mono ?_); rintro e w6 ⟨rfl, hb6⟩; exact ⟨rfl, hw.1.next hb6, hw.2.1.next hb6, hw.2.2.next hb6⟩)
                     intro K hK
                     go_simp
                     refine hK _ ?_
                     clear hK K)
                  | (refine keep_skip ?_ ?_
                     · first
                         | (go_simp; done)
                         | kernel_rfl
                     intro K hK
                     go_simp
                     refine hK _ ?_
                     clear hK K))
                exact keep_done
              intro w7 h7
              have KJ7 := Lib.hid h7
              clear h7 KJ
              go_wp2_with fail
              go_roundw
              case rel => exact ⟨j + 1, by omega, by go_num, KJ7.out.2.1, KJ7.out.2.2⟩
              case measure => go_light; simp [intOf]; omega
            · have C1 := Lib.hid (parsedC x C4.zero 3 hm hsx)
              clear hm
              go_wp2_with fail
              refine (C1.out _ KT.out.x.env).mono ?_
              rintro e w3 ⟨rfl, hb3⟩
              have KL2 := Lib.hid (KL.out.next hb3)
              have KT2 := Lib.hid (KT.out.next hb3)
              clear hb3 hc
              simp only [C4.zero]
              go_wp2_with fail
              have HP : P5 w3.heap.size C4.zero 3 (w3.alloc (.cells #[.int .i64 0, .int .i64 0, .int .i64 0, .int .i64 0, .int .i64 3] 38)) := ⟨by simp [C4.zero], by simp [C4.zero], by simp [C4.zero], by simp [C4.zero], by simp, by simp⟩
              have HL3 := KL2.out.next ((Below.refl _ w3).alloc (Nat.le_refl _) (.cells #[.int .i64 0, .int .i64 0, .int .i64 0, .int .i64 0, .int .i64 3] 38))
              have HT3 := KT2.out.next ((Below.refl _ w3).alloc (Nat.le_refl _) (.cells #[.int .i64 0, .int .i64 0, .int .i64 0, .int .i64 0, .int .i64 3] 38))
              generalize w3.alloc (.cells #[.int .i64 0, .int .i64 0, .int .i64 0, .int .i64 0, .int .i64 3] 38) = w4 at HP HL3 HT3 ⊢
              generalize w3.heap.size = nr at HP ⊢
              have KJ := Lib.hid (And.intro HP (And.intro HL3 HT3))
              clear HP HL3 HT3 KL2 KT2
              apply wp_region_kept (fun w' => P5 nr C4.zero 3 w' ∧ LT s k cb n w' ∧ TSt (.int .i64 x0) (.int .i64 x1) (.int .i64 x2) (.int .i64 x3) (.int .i64 x4) (.int .i64 x5) (.int .i64 x6) (.int .i64 x7) (.int .u8 v0) (.int .u8 (cb.toNat : Int)) (.int .u8 v2) w na nb a b w') (hm := by kernel_rfl) (hB := by kernel_rfl) (hb := by kernel_rfl) (hJ := ⟨KJ.out.1.next (Below.refl _ w4).drew, KJ.out.2.1.next (Below.refl _ w4).drew, KJ.out.2.2.drew⟩)
              · go_light
                repeat (first
                  | (apply keep_run
                     · go_simp
                     · unfold gives
                       intro w5 hw
                       have p0 := hw.1.c0
                       have p1 := hw.1.c1
                       have p2 := hw.1.c2
                       have p3 := hw.1.c3
                       have p4 := hw.1.c4
                       have l0 := hw.2.1.c j hlt
                       rw [HX.out] at l0
                       go_simp
                       first
                         | exact ⟨rfl, hw⟩
                         | rfl
                     intro K hK
                     go_simp
                     refine hK _ ?_
                     clear hK K)
                  | (refine keep_skip ?_ ?_
                     · first
                         | (go_simp; done)
                         | kernel_rfl
                     intro K hK
                     go_simp
                     refine hK _ ?_
                     clear hK K))
                exact keep_done
              intro w7 h7
              have KJ7 := Lib.hid h7
              clear h7 KJ
              go_wp2_with fail
              go_roundw
              case rel => exact ⟨j + 1, by omega, by go_num, KJ7.out.2.1, KJ7.out.2.2⟩
              case measure => go_light; simp [intOf]; omega
          · obtain rfl : j = 5 := by omega
            go_wp2_with fail
            go_ret
            exact ⟨rfl, hT.x.below⟩
end Go.Proofs.YtdalfkdfpeffdaaDoor
