/- Proved here: meter.named and meter.row, for every text and every cost; where the library's tables stand (Env). -/
import Derived.Test.YtdalfkdfpeffdaaDoorMF
namespace Go.Proofs.YtdalfkdfpeffdaaDoor
open Go.RowKit

/-- A rune that no name for a report holds. -/
def oddR (x : Nat) : Bool := decide ((x : Int) < 33) || decide (126 < (x : Int))

theorem ret_bool {a b : Bool} (h : a = b) : Ending.returned (.bool a) = .returned (.bool b) := by rw [h]

set_option maxHeartbeats 400000 in
theorem odd_any (x : Nat) (hx : x ≤ 1114111) (w : World) :
    Calls Tryd.prog 46 #[.int .i32 x] w fun e w' => e = .returned (.bool (oddR x)) ∧ w = w' := by
  go_enter Tryd.func46, Tryd.ntmps46
  go_wp2
  all_goals
    go_ret
    refine ⟨ret_bool ?_, rfl⟩
    unfold oddR
    first
      | (rename_i h; simp [h]; done)
      | (rename_i h; simp; omega)

theorem odd_pred (w : World) : PredAtRunes Tryd.prog 46 #[] oddR w := fun W x hx _ =>
  (odd_any x hx W).mono fun _ _ ⟨he, hw⟩ => ⟨he, 0, hw.symm⟩

theorem contains_any (s : ByteArray) (w : World) :
    Calls Tryd.prog 47 #[.string s, .func (.func 46) #[] #[]] w fun e w' =>
      e = .returned (.bool (decide (0 ≤ Lib.idxFunc oddR true s))) ∧ Below w.heap.size w w' :=
  Tryd.strings_ContainsFunc_runes 46 #[] (enters_of Tryd.func46 (by kernel_rfl) rfl) oddR s w (odd_pred w)

/-- A name for a report, as the machine asks it. -/
def namedB (s : ByteArray) : Bool := decide (1 ≤ s.size) && decide (s.size ≤ 40) && !decide (0 ≤ Lib.idxFunc oddR true s)

set_option maxRecDepth 100000 in
set_option maxHeartbeats 400000 in
theorem named_any (s : ByteArray) (hs : s.size ≤ 140737488355328) (w : World) :
    Calls Tryd.prog 35 #[.string s] w fun e w' => e = .returned (.bool (namedB s)) ∧ Below w.heap.size w w' := by
  by_cases h1 : 1 ≤ s.size
  · by_cases h2 : s.size ≤ 40
    · obtain ⟨r, hr⟩ : ∃ r, decide (0 ≤ Lib.idxFunc oddR true s) = r := ⟨_, rfl⟩
      have C := contains_any s
      rw [hr] at C
      rw [show namedB s = !r by unfold namedB; rw [hr]; simp [h1, h2]]
      have HR := Lib.hid hr
      have HC := Lib.hid C
      clear hr C
      go_enter Tryd.func35, Tryd.ntmps35
      go_wp2_with (go_at_call 47; refine (HC.out _).mono ?_; rintro e w2 ⟨rfl, hb2⟩)
      go_ret
      exact ⟨rfl, hb2⟩
    · rw [show namedB s = false by unfold namedB; simp [h2]]
      go_enter Tryd.func35, Tryd.ntmps35
      go_wp2
      go_ret
      exact ⟨rfl, Below.refl _ _⟩
  · rw [show namedB s = false by unfold namedB; simp [h1]]
    go_enter Tryd.func35, Tryd.ntmps35
    go_wp2
    go_ret
    exact ⟨rfl, Below.refl _ _⟩

/-- The words of a line of a report. -/
def rowB (name : ByteArray) (c : C4) : List ByteArray := [name, ⟨(Lib.itoa c.i).toArray⟩, ⟨(Lib.itoa c.s).toArray⟩, ⟨(Lib.itoa c.m).toArray⟩, ⟨(Lib.itoa c.k).toArray⟩]

set_option maxRecDepth 100000 in
set_option maxHeartbeats 1000000 in
theorem row_any (name : ByteArray) (c : C4) (w : World) (he : Env w) (hi0 : -9223372036854775808 ≤ c.i) (hi1 : c.i ≤ 9223372036854775807) (hs0 : -9223372036854775808 ≤ c.s) (hs1 : c.s ≤ 9223372036854775807) (hm0 : -9223372036854775808 ≤ c.m) (hm1 : c.m ≤ 9223372036854775807) (hk0 : -9223372036854775808 ≤ c.k) (hk1 : c.k ≤ 9223372036854775807) :
    Calls Tryd.prog 36 #[.string name, .agg #[.int .i64 c.i, .int .i64 c.s, .int .i64 c.m, .int .i64 c.k]] w fun e w' =>
      (∃ g cap, e = .returned (.slice (some ⟨g, 0, none⟩) 5 cap) ∧ w'.ownsRow w.heap.size 9 1 (.slice (some ⟨g, 0, none⟩) 5 cap) 5 ((rowB name c).map Value.string)) ∧ Below w.heap.size w w' := by
  have j0 := ix0
  have j1 := ix1
  have j2 := ix2
  have j3 := ix3
  obtain ⟨i0, hi, hz0, hz1, hz2⟩ := info_parts Tryd.infoStr
  have HE := Lib.hid he
  clear he
  go_enter Tryd.func36, Tryd.ntmps36
  go_wp2_with (go_at_call 21; refine (parts_any _ _).mono ?_; rintro e w' ⟨rfl, rfl⟩)
  go_loopw [5, 11] (fun v q wr =>
      (q = .int .i64 0 ∧ TextSt w.heap.size c v [.string name] w wr)
      ∨ (q = .int .i64 1 ∧ TextSt w.heap.size c v [.string name, .string ⟨(Lib.itoa c.i).toArray⟩] w wr)
      ∨ (q = .int .i64 2 ∧ TextSt w.heap.size c v [.string name, .string ⟨(Lib.itoa c.i).toArray⟩, .string ⟨(Lib.itoa c.s).toArray⟩] w wr)
      ∨ (q = .int .i64 3 ∧ TextSt w.heap.size c v [.string name, .string ⟨(Lib.itoa c.i).toArray⟩, .string ⟨(Lib.itoa c.s).toArray⟩, .string ⟨(Lib.itoa c.m).toArray⟩] w wr)
      ∨ (q = .int .i64 4 ∧ TextSt w.heap.size c v [.string name, .string ⟨(Lib.itoa c.i).toArray⟩, .string ⟨(Lib.itoa c.s).toArray⟩, .string ⟨(Lib.itoa c.m).toArray⟩, .string ⟨(Lib.itoa c.k).toArray⟩] w wr)) (fun _ q _ => 4 - (intOf q).toNat)
  case atStart =>
    refine .inl ⟨rfl, ?_⟩
    have ho : (((w.alloc (.cells #[.int .i64 c.i, .int .i64 c.s, .int .i64 c.m, .int .i64 c.k] 26)).alloc (.cells #[.string name] 9))).ownsRow (w.heap.size + 1) 9 1 (.slice (some ⟨w.heap.size + 1, 0, none⟩) 1 1) 1 [.string name] := by
      have h := World.ownsRow_lit (base := w.heap.size + 1) (e := 9) (size := 1) (w.alloc (.cells #[.int .i64 c.i, .int .i64 c.s, .int .i64 c.m, .int .i64 c.k] 26)) #[.string name] 1 (by simp) (by simp [maxLen]) rfl
      rw [World.size_alloc] at h
      exact h
    refine ⟨by simp [go_sem], by simp [go_sem], by simp [go_sem], by simp [go_sem], HE.out.next (by repeat (first | exact Below.refl _ _ | refine Below.drew ?_ | refine Below.alloc ?_ (by simp <;> omega) _)), ?_, (by repeat (first | exact Below.refl _ _ | refine Below.drew ?_ | refine Below.alloc ?_ (by simp <;> omega) _)), by simp; omega⟩
    exact own_below ho (((Below.refl _ _).alloc (Nat.le_refl _) _).drew)
  case round =>
    have HA := Lib.hid HE.out.size
    rcases hrel with ⟨rfl, h⟩ | ⟨rfl, h⟩ | ⟨rfl, h⟩ | ⟨rfl, h⟩ | ⟨rfl, h⟩
    · have H := Lib.hid h
      obtain ⟨a0, a1, a2, a3, henv, hown, hbl, hsz⟩ := h
      have HV := Lib.hid henv
      clear henv
      go_wp2_with (go_at_call 23; fail)
      refine (itoa_any _ (by omega) (by omega) _ HV.out).mono ?_
      rintro e w2 ⟨rfl, hb2⟩
      have hbd : Below wr.drew.heap.size wr.drew w2 := ⟨hb2.os, hb2.tape, hb2.output, hb2.size, hb2.block⟩
      go_wp2_with (at_builtin; refine wpList_append_lies _ rfl _ _ 41 rfl (w.heap.size + 1) 9 i0 (.string ⟨#[]⟩) 1 16 Tryd.underlying41 hi hz0 hz1 hz2 rfl (by decide) _ _ _ rfl (own_below hown (hb2.alloc hb2.size _)) ⟨w2.heap.size, 0, none⟩ 1 1 [.string ⟨(Lib.itoa c.i).toArray⟩] rfl rfl (cell_one_new _ _ _) (by simp [Value.oneCell']) (by decide) (by simp [maxLen]) (by simp) (Nat.le_trans hsz (Nat.le_trans hb2.size (by simp))) (w2.heap.size + 1) (by simp) ?_; intro g cap w3 hown3 hgrow hg3 hlt3)
      go_roundw
      case rel => exact (.inr (.inl ⟨rfl, H.out.step HA.out (Below.refl _ _) hbd rfl hown3 hgrow⟩))
      case measure => simp [intOf]
    · have H := Lib.hid h
      obtain ⟨a0, a1, a2, a3, henv, hown, hbl, hsz⟩ := h
      have HV := Lib.hid henv
      clear henv
      go_wp2_with (go_at_call 23; fail)
      refine (itoa_any _ (by omega) (by omega) _ HV.out).mono ?_
      rintro e w2 ⟨rfl, hb2⟩
      have hbd : Below wr.drew.heap.size wr.drew w2 := ⟨hb2.os, hb2.tape, hb2.output, hb2.size, hb2.block⟩
      go_wp2_with (at_builtin; refine wpList_append_lies _ rfl _ _ 41 rfl (w.heap.size + 1) 9 i0 (.string ⟨#[]⟩) 1 16 Tryd.underlying41 hi hz0 hz1 hz2 rfl (by decide) _ _ _ rfl (own_below hown (hb2.alloc hb2.size _)) ⟨w2.heap.size, 0, none⟩ 1 1 [.string ⟨(Lib.itoa c.s).toArray⟩] rfl rfl (cell_one_new _ _ _) (by simp [Value.oneCell']) (by decide) (by simp [maxLen]) (by simp) (Nat.le_trans hsz (Nat.le_trans hb2.size (by simp))) (w2.heap.size + 1) (by simp) ?_; intro g cap w3 hown3 hgrow hg3 hlt3)
      go_roundw
      case rel => exact (.inr (.inr (.inl ⟨rfl, H.out.step HA.out (Below.refl _ _) hbd rfl hown3 hgrow⟩)))
      case measure => simp [intOf]
    · have H := Lib.hid h
      obtain ⟨a0, a1, a2, a3, henv, hown, hbl, hsz⟩ := h
      have HV := Lib.hid henv
      clear henv
      go_wp2_with (go_at_call 23; fail)
      refine (itoa_any _ (by omega) (by omega) _ HV.out).mono ?_
      rintro e w2 ⟨rfl, hb2⟩
      have hbd : Below wr.drew.heap.size wr.drew w2 := ⟨hb2.os, hb2.tape, hb2.output, hb2.size, hb2.block⟩
      go_wp2_with (at_builtin; refine wpList_append_lies _ rfl _ _ 41 rfl (w.heap.size + 1) 9 i0 (.string ⟨#[]⟩) 1 16 Tryd.underlying41 hi hz0 hz1 hz2 rfl (by decide) _ _ _ rfl (own_below hown (hb2.alloc hb2.size _)) ⟨w2.heap.size, 0, none⟩ 1 1 [.string ⟨(Lib.itoa c.m).toArray⟩] rfl rfl (cell_one_new _ _ _) (by simp [Value.oneCell']) (by decide) (by simp [maxLen]) (by simp) (Nat.le_trans hsz (Nat.le_trans hb2.size (by simp))) (w2.heap.size + 1) (by simp) ?_; intro g cap w3 hown3 hgrow hg3 hlt3)
      go_roundw
      case rel => exact (.inr (.inr (.inr (.inl ⟨rfl, H.out.step HA.out (Below.refl _ _) hbd rfl hown3 hgrow⟩))))
      case measure => simp [intOf]
    · have H := Lib.hid h
      obtain ⟨a0, a1, a2, a3, henv, hown, hbl, hsz⟩ := h
      have HV := Lib.hid henv
      clear henv
      go_wp2_with (go_at_call 23; fail)
      refine (itoa_any _ (by omega) (by omega) _ HV.out).mono ?_
      rintro e w2 ⟨rfl, hb2⟩
      have hbd : Below wr.drew.heap.size wr.drew w2 := ⟨hb2.os, hb2.tape, hb2.output, hb2.size, hb2.block⟩
      go_wp2_with (at_builtin; refine wpList_append_lies _ rfl _ _ 41 rfl (w.heap.size + 1) 9 i0 (.string ⟨#[]⟩) 1 16 Tryd.underlying41 hi hz0 hz1 hz2 rfl (by decide) _ _ _ rfl (own_below hown (hb2.alloc hb2.size _)) ⟨w2.heap.size, 0, none⟩ 1 1 [.string ⟨(Lib.itoa c.k).toArray⟩] rfl rfl (cell_one_new _ _ _) (by simp [Value.oneCell']) (by decide) (by simp [maxLen]) (by simp) (Nat.le_trans hsz (Nat.le_trans hb2.size (by simp))) (w2.heap.size + 1) (by simp) ?_; intro g cap w3 hown3 hgrow hg3 hlt3)
      go_roundw
      case rel => exact (.inr (.inr (.inr (.inr ⟨rfl, H.out.step HA.out (Below.refl _ _) hbd rfl hown3 hgrow⟩))))
      case measure => simp [intOf]
    · obtain ⟨a0, a1, a2, a3, henv, hown, hbl, hsz⟩ := h
      obtain ⟨hl, h | ⟨g, cap, cur, rfl, hg, hh, hcap, hmx, hcs, htk⟩⟩ := hown
      · exact absurd h.2 (by simp)
      · have HO : Hid (wr.ownsRow w.heap.size 9 1 (.slice (some ⟨g, 0, none⟩) 5 cap) 5 ((rowB name c).map Value.string)) :=
          ⟨rfl, .inr ⟨g, cap, cur, rfl, by omega, hh, hcap, hmx, hcs, htk⟩⟩
        clear htk hcs hl hh henv
        go_wp2
        go_ret
        exact ⟨⟨g, cap, rfl, HO.out⟩, hbl⟩
end Go.Proofs.YtdalfkdfpeffdaaDoor
