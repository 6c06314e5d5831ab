/- Proved here: the law's wrappers of Parse and Report, and the law's plain costs; where the library's tables stand (Env). -/
import Derived.Test.YtdalfkdfpeffdaaDoorMI
import Derived.Laws.Bits128
namespace Go.Proofs.YtdalfkdfpeffdaaDoor
open Go.RowKit

theorem StrsAt.below {a : Option Addr} {cs : List ByteArray} {w w' : World} (h : StrsAt a cs w) (hb : Below w.heap.size w w') : StrsAt a cs w' := by
  rcases h with h | ⟨b, off, e, hl, hc⟩
  · exact .inl h
  · exact .inr ⟨b, off, e, Nat.lt_of_lt_of_le hl hb.size, fun i s hi => (hb.cell (p := ⟨b, off + i, none⟩) hl).trans (hc i s hi)⟩

theorem report_any (a1 a2 : Option Addr) (c1 c2 : Nat) (ns : List ByteArray) (cs : List C4) (w : World) (he : Env w) (hl1 : ns.length ≤ 140737488355328) (hl2 : cs.length ≤ 140737488355328)
    (hns : StrsAt a1 ns w) (hcs : CostsAt a2 cs w) (hsz : ∀ n ∈ ns, n.size ≤ 140737488355328) :
    Calls Tryd.prog 26 #[.slice a1 ns.length c1, .slice a2 cs.length c2] w (ReportPost ns cs w) := by
  by_cases h : ns.length ≠ cs.length ∨ 1000 < cs.length
  · refine (report_count a1 a2 _ c1 _ c2 w hl1 hl2 h).mono fun e w' ⟨h1, h2⟩ => ⟨?_, h2⟩
    have HM : reportM ns cs = (⟨#[]⟩, 1) := by unfold reportM; rw [if_pos h]
    rw [HM]; exact h1
  · exact report_walk a1 a2 c1 c2 ns cs w he (by omega) (by omega) hns hcs hsz

theorem box5 {w w' : World} {n : Nat} {v0 v1 v2 v3 v4 : Value} {T : TypeId} (hn : n = w.heap.size) (hb : Below (w.alloc (.cells #[v0, v1, v2, v3, v4] T)).heap.size (w.alloc (.cells #[v0, v1, v2, v3, v4] T)) w') :
    w'.cell? ⟨n, 0, none⟩ = some v0 ∧ w'.cell? ⟨n, 1, none⟩ = some v1 ∧ w'.cell? ⟨n, 2, none⟩ = some v2 ∧ w'.cell? ⟨n, 3, none⟩ = some v3 ∧ w'.cell? ⟨n, 4, none⟩ = some v4 ∧
    w'.frozen? ⟨n, 0, none⟩ = false ∧ w'.frozen? ⟨n, 1, none⟩ = false ∧ w'.frozen? ⟨n, 2, none⟩ = false ∧ w'.frozen? ⟨n, 3, none⟩ = false ∧ w'.frozen? ⟨n, 4, none⟩ = false := by
  subst hn
  refine ⟨?_, ?_, ?_, ?_, ?_, ?_, ?_, ?_, ?_, ?_⟩
  · exact (hb.cell (p := ⟨w.heap.size, 0, none⟩) (by simp)).trans (by simp)
  · exact (hb.cell (p := ⟨w.heap.size, 1, none⟩) (by simp)).trans (by simp)
  · exact (hb.cell (p := ⟨w.heap.size, 2, none⟩) (by simp)).trans (by simp)
  · exact (hb.cell (p := ⟨w.heap.size, 3, none⟩) (by simp)).trans (by simp)
  · exact (hb.cell (p := ⟨w.heap.size, 4, none⟩) (by simp)).trans (by simp)
  · exact (hb.frozen (p := ⟨w.heap.size, 0, none⟩) (by simp)).trans (by simp)
  · exact (hb.frozen (p := ⟨w.heap.size, 1, none⟩) (by simp)).trans (by simp)
  · exact (hb.frozen (p := ⟨w.heap.size, 2, none⟩) (by simp)).trans (by simp)
  · exact (hb.frozen (p := ⟨w.heap.size, 3, none⟩) (by simp)).trans (by simp)
  · exact (hb.frozen (p := ⟨w.heap.size, 4, none⟩) (by simp)).trans (by simp)

theorem set5 {w : World} {n : Nat} {x0 x1 x2 x3 x4 : Value} (r0 : w.cell? ⟨n, 0, none⟩ = some x0) (r1 : w.cell? ⟨n, 1, none⟩ = some x1) (r2 : w.cell? ⟨n, 2, none⟩ = some x2) (r3 : w.cell? ⟨n, 3, none⟩ = some x3) (r4 : w.cell? ⟨n, 4, none⟩ = some x4) (a b c d e : Value) :
    (((((w.setCell ⟨n, 0, none⟩ a).setCell ⟨n, 1, none⟩ b).setCell ⟨n, 2, none⟩ c).setCell ⟨n, 3, none⟩ d).setCell ⟨n, 4, none⟩ e).cell? ⟨n, 0, none⟩ = some a ∧
    (((((w.setCell ⟨n, 0, none⟩ a).setCell ⟨n, 1, none⟩ b).setCell ⟨n, 2, none⟩ c).setCell ⟨n, 3, none⟩ d).setCell ⟨n, 4, none⟩ e).cell? ⟨n, 1, none⟩ = some b ∧
    (((((w.setCell ⟨n, 0, none⟩ a).setCell ⟨n, 1, none⟩ b).setCell ⟨n, 2, none⟩ c).setCell ⟨n, 3, none⟩ d).setCell ⟨n, 4, none⟩ e).cell? ⟨n, 2, none⟩ = some c ∧
    (((((w.setCell ⟨n, 0, none⟩ a).setCell ⟨n, 1, none⟩ b).setCell ⟨n, 2, none⟩ c).setCell ⟨n, 3, none⟩ d).setCell ⟨n, 4, none⟩ e).cell? ⟨n, 3, none⟩ = some d ∧
    (((((w.setCell ⟨n, 0, none⟩ a).setCell ⟨n, 1, none⟩ b).setCell ⟨n, 2, none⟩ c).setCell ⟨n, 3, none⟩ d).setCell ⟨n, 4, none⟩ e).cell? ⟨n, 4, none⟩ = some e := by
  obtain ⟨q0, q1, q2, q3⟩ := set4 r0 r1 r2 r3 a b c d
  have q4 : ((((w.setCell ⟨n, 0, none⟩ a).setCell ⟨n, 1, none⟩ b).setCell ⟨n, 2, none⟩ c).setCell ⟨n, 3, none⟩ d).cell? ⟨n, 4, none⟩ = some x4 := by simp [go_sem, r4]
  refine ⟨?_, ?_, ?_, ?_, ?_⟩
  · rw [World.cell?_setCell_other _ _ _ _ (by simp)]; exact q0
  · rw [World.cell?_setCell_other _ _ _ _ (by simp)]; exact q1
  · rw [World.cell?_setCell_other _ _ _ _ (by simp)]; exact q2
  · rw [World.cell?_setCell_other _ _ _ _ (by simp)]; exact q3
  · exact cell_set q4 e

set_option maxRecDepth 100000 in
set_option maxHeartbeats 1000000 in
theorem parsed_any (s : ByteArray) (w : World) (hs : s.size < 4294967281) (he : Env w) :
    Calls Tryd.prog 13 #[.string s] w fun e w' =>
      e = .returned (.agg #[.int .i64 (parseM s).1.i, .int .i64 (parseM s).1.s, .int .i64 (parseM s).1.m, .int .i64 (parseM s).1.k, .int .i64 (parseM s).2]) ∧ Below w.heap.size w w' := by
  have HE := Lib.hid he
  clear he
  go_enter Tryd.func13, Tryd.ntmps13
  go_wp2_with (go_at_call 25; fail)
  refine (parse_any s _ hs (HE.out.next ((Below.refl _ w).alloc (Nat.le_refl _) _))).mono ?_
  rintro e w2 ⟨rfl, hb2⟩
  obtain ⟨c, n, hp⟩ : ∃ c n, parseM s = (c, n) := ⟨_, _, rfl⟩
  rw [hp]
  obtain ⟨b0, b1, b2, b3, b4, g0, g1, g2, g3, g4⟩ := box5 (n := w.heap.size) rfl hb2
  have hB : Below w.heap.size w w2 := ((Below.refl _ w).alloc (Nat.le_refl _) _).trans (hb2.mono (by simp))
  have hsz : w.heap.size < w2.heap.size := by have := hb2.size; simp at this; omega
  have HP := Lib.hid hp
  clear hp hb2
  dsimp only
  go_wp2
  obtain ⟨q0, q1, q2, q3, q4⟩ := set5 b0 b1 b2 b3 b4 (.int .i64 c.i) (.int .i64 c.s) (.int .i64 c.m) (.int .i64 c.k) (.int .i64 n)
  refine bodyPost_ret (v := .agg #[.int .i64 c.i, .int .i64 c.s, .int .i64 c.m, .int .i64 c.k, .int .i64 n]) (by simp [results, Tryd.results13, go_sem, q0, q1, q2, q3, q4, hsz]) rfl ⟨by rw [HP.out], ?_⟩
  exact (((((hB.setCell (Nat.le_refl _) _).setCell (Nat.le_refl _) _).setCell (Nat.le_refl _) _).setCell (Nat.le_refl _) _).setCell (Nat.le_refl _) _).alloc (by simp [World.setCell]; omega) _

theorem mask40 (n : Int) : bits .and .i64 n 1099511627775 = n % 1099511627776 := by
  have h127 : (BitVec.ofInt 64 1099511627775).toNat = 2 ^ 40 - 1 := by decide
  have key : (BitVec.ofInt 64 n &&& BitVec.ofInt 64 1099511627775).toNat = (n % ((2 ^ 64 : Nat) : Int)).toNat % 2 ^ 40 := by
    rw [BitVec.toNat_and, BitVec.toNat_ofInt, h127, Nat.and_two_pow_sub_one_eq_mod]
  show IntKind.i64.wrap ((BitVec.ofInt 64 n &&& BitVec.ofInt 64 1099511627775).toNat : Nat) = n % 1099511627776
  rw [key, IntKind.wrap_i64]
  omega

set_option maxRecDepth 100000 in
set_option maxHeartbeats 1000000 in
theorem of_any (a b c d : Int) (w : World) :
    Calls Tryd.prog 17 #[.agg #[.int .i64 a, .int .i64 b, .int .i64 c, .int .i64 d]] w fun e w' => e = .returned (.agg #[.int .i64 a, .int .i64 b, .int .i64 c, .int .i64 d]) ∧ Below w.heap.size w w' := by
  go_enter Tryd.func17, Tryd.ntmps17
  go_wp2
  refine bodyPost_ret (v := .agg #[.int .i64 a, .int .i64 b, .int .i64 c, .int .i64 d]) (by simp [results, Tryd.results17, go_sem]) rfl ⟨rfl, ?_⟩
  repeat (first | exact Below.refl _ _ | refine Below.drew ?_ | refine Below.alloc ?_ (by simp <;> omega) _)

set_option maxRecDepth 100000 in
set_option maxHeartbeats 1000000 in
theorem lawplain_any (a b c d : Int) (w : World) :
    Calls Tryd.prog 7 #[.agg #[.int .i64 a, .int .i64 b, .int .i64 c, .int .i64 d]] w fun e w' => (∃ x : C4, plainB x.i x.s x.m x.k = true ∧ e = .returned (.agg #[.int .i64 x.i, .int .i64 x.s, .int .i64 x.m, .int .i64 x.k])) ∧ Below w.heap.size w w' := by
  go_enter Tryd.func7, Tryd.ntmps7
  go_wp2
  refine wp_loop_rounds 5 ?_
  rw [rounds_succ]; go_wp2
  rw [rounds_succ]; go_wp2
  rw [rounds_succ]; go_wp2
  rw [rounds_succ]; go_wp2
  rw [rounds_succ]; go_wp2_with (go_at_call 17; fail)
  refine (of_any _ _ _ _ _).mono ?_
  rintro e w2 ⟨rfl, hb2⟩
  obtain ⟨⟨c0, c1, c2, c3⟩, ⟨f0, f1, f2, f3⟩, hB0⟩ := box4 (n := w.heap.size + 1) (by simp) rfl hb2
  have hB : Below w.heap.size w w2 := ((Below.refl _ w).alloc (Nat.le_refl _) _).trans (hB0.mono (by simp))
  clear hb2 hB0
  go_wp2
  obtain ⟨q0, q1, q2, q3⟩ := set4 c0 c1 c2 c3 (.int .i64 (bits BinOp.and IntKind.i64 a 1099511627775)) (.int .i64 (bits BinOp.and IntKind.i64 b 1099511627775)) (.int .i64 (bits BinOp.and IntKind.i64 c 1099511627775)) (.int .i64 (bits BinOp.and IntKind.i64 d 1099511627775))
  refine bodyPost_ret (v := .agg #[.int .i64 (bits BinOp.and IntKind.i64 a 1099511627775), .int .i64 (bits BinOp.and IntKind.i64 b 1099511627775), .int .i64 (bits BinOp.and IntKind.i64 c 1099511627775), .int .i64 (bits BinOp.and IntKind.i64 d 1099511627775)]) (by simp [results, Tryd.results7, go_sem, q0, q1, q2, q3]) rfl ⟨⟨⟨bits BinOp.and IntKind.i64 a 1099511627775, bits BinOp.and IntKind.i64 b 1099511627775, bits BinOp.and IntKind.i64 c 1099511627775, bits BinOp.and IntKind.i64 d 1099511627775⟩, ?_, rfl⟩, ?_⟩
  · show plainB _ _ _ _ = true
    rw [mask40, mask40, mask40, mask40]
    unfold plainB
    rw [decide_eq_true_iff]
    dsimp only
    omega
  · exact (((hB.setCell (by simp) _).setCell (by simp) _).setCell (by simp) _).setCell (by simp) _

set_option maxRecDepth 100000 in
set_option maxHeartbeats 1000000 in
theorem lawreport_any (a1 a2 : Option Addr) (c1 c2 : Nat) (ns : List ByteArray) (cs : List C4) (w : World) (he : Env w) (hl1 : ns.length ≤ 140737488355328) (hl2 : cs.length ≤ 140737488355328)
    (hns : StrsAt a1 ns w) (hcs : CostsAt a2 cs w) (hsz : ∀ n ∈ ns, n.size ≤ 140737488355328) :
    Calls Tryd.prog 14 #[.slice a1 ns.length c1, .slice a2 cs.length c2] w fun e w' =>
      e = .returned (.agg #[.string (reportM ns cs).1, .int .i64 (reportM ns cs).2]) ∧ Below w.heap.size w w' := by
  have HA := Lib.hid ((Below.refl w.heap.size w).alloc (Nat.le_refl _) (.cells #[.string ⟨#[]⟩, .int .i64 0] 47))
  have hns2 : StrsAt a1 ns (w.alloc (.cells #[.string ⟨#[]⟩, .int .i64 0] 47)) := hns.below HA.out
  have hcs2 : CostsAt a2 cs (w.alloc (.cells #[.string ⟨#[]⟩, .int .i64 0] 47)) := hcs.below HA.out
  have HN2 := Lib.hid hns2
  have HC2 := Lib.hid hcs2
  have HSZ := Lib.hid hsz
  have HE := Lib.hid he
  clear he hns hcs hsz hns2 hcs2
  go_enter Tryd.func14, Tryd.ntmps14
  go_wp2_with (go_at_call 26; fail)
  refine (report_any a1 a2 c1 c2 ns cs _ (HE.out.next HA.out) hl1 hl2 HN2.out HC2.out HSZ.out).mono ?_
  rintro e w2 ⟨rfl, hb2⟩
  obtain ⟨t, n, hp⟩ : ∃ t n, reportM ns cs = (t, n) := ⟨_, _, rfl⟩
  rw [hp]
  have b0 := (hb2.cell (p := ⟨w.heap.size, 0, none⟩) (by simp)).trans (show _ = some (Value.string ⟨#[]⟩) by simp [go_sem])
  have b1 := (hb2.cell (p := ⟨w.heap.size, 1, none⟩) (by simp)).trans (show _ = some (Value.int .i64 0) by simp [go_sem])
  have g0 := (hb2.frozen (p := ⟨w.heap.size, 0, none⟩) (by simp)).trans (show _ = false by simp [go_sem])
  have g1 := (hb2.frozen (p := ⟨w.heap.size, 1, none⟩) (by simp)).trans (show _ = false by simp [go_sem])
  have hB : Below w.heap.size w w2 := HA.out.trans (hb2.mono (by simp))
  have HP := Lib.hid hp
  clear hp hb2
  dsimp only
  go_wp2
  have q1 : (w2.setCell ⟨w.heap.size, 0, none⟩ (.string t)).cell? ⟨w.heap.size, 1, none⟩ = some (.int .i64 0) := by simp [go_sem, b1]
  refine bodyPost_ret (v := .agg #[.string t, .int .i64 n]) (by simp [results, Tryd.results14, go_sem, cell_set b0, cell_set q1]) rfl ⟨by rw [HP.out], ?_⟩
  exact (hB.setCell (Nat.le_refl _) _).setCell (Nat.le_refl _) _
end Go.Proofs.YtdalfkdfpeffdaaDoor
