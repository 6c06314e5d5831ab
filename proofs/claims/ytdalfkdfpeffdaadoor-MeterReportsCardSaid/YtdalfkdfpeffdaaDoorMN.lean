/- Proved here: the last word of a line that has a blank before it, and the lines of a text; for texts of at most 2^40 bytes. -/
import Derived.Test.YtdalfkdfpeffdaaDoorMX
import Derived.Test.YtdalfkdfpeffdaaDoorMY
import Derived.Test.YtdalfkdfpeffdaaDoorRD
import Derived.Lib.Hide
namespace Go.Proofs.YtdalfkdfpeffdaaDoor
open Go.RowKit

theorem byte_ne {a : UInt8} {n : Nat} (h : a ≠ UInt8.ofNat n) (hn : n < 256 := by decide) : ((a.toNat : Int) != (n : Int)) = true := by
  rw [bne_iff_ne]
  intro e
  have e2 : a.toNat = n := by omega
  exact h (UInt8.toNat.inj (by rw [e2, UInt8.toNat_ofNat']; omega))
theorem byte_eq {a : UInt8} {n : Nat} (h : a = UInt8.ofNat n) (hn : n < 256 := by decide) : ((a.toNat : Int) != (n : Int)) = false := by
  rw [bne_eq_false_iff_eq, h, UInt8.toNat_ofNat']
  omega

set_option maxHeartbeats 1000000 in
theorem last_at (s : ByteArray) (p : Nat) (hp : 0 < p) (hps : p ≤ s.size) (hs : s.size ≤ 1099511627776) (hall : ∀ (j : Nat) (hj : j < s.size), p ≤ j → s[j] ≠ 32) (hb : ∀ h : p - 1 < s.size, s[p - 1] = 32) (w : World) :
    Calls Tryd.prog 16 #[.string s] w fun e w' => e = .returned (.string (s.extract p s.size)) ∧ w = w' := by
  have HA := Lib.hid hall
  have HB := Lib.hid hb
  clear hall hb
  go_enter Tryd.func16, Tryd.ntmps16
  go_wp2
  go_loop [3] (fun i => ∃ k : Nat, p ≤ k ∧ k ≤ s.size ∧ i = .int .i64 (k : Int)) (fun i => (intOf i).toNat)
  case atStart => exact ⟨s.size, hps, Nat.le_refl _, rfl⟩
  case round =>
    obtain ⟨k, hk1, hk2, rfl⟩ := hrel
    obtain ⟨m, rfl⟩ : ∃ m, k = m + 1 := ⟨k - 1, by omega⟩
    have hm : m < s.size := by omega
    by_cases hlt : p ≤ m
    · have h1 : ((s[m].toNat : Int) != 32) = true := byte_ne (HA.out m hm hlt)
      go_wp2
      refine ⟨⟨m, hlt, by omega, rfl⟩, ?_⟩
      go_light
      simp [intOf]
    · obtain rfl : p = m + 1 := by omega
      have h1 : ((s[m].toNat : Int) != 32) = false := byte_eq (HB.out hm)
      go_wp2
      go_ret
      exact ⟨rfl, rfl⟩

/-- What a round of 'lines' finds. -/
structure LinSt (A : Nat) (v : Value) (ls : List ByteArray) (w wr : World) : Prop where
  own : wr.ownsRow A 9 1 v ls.length (ls.map Value.string)
  below : Below A w wr

set_option maxRecDepth 100000 in
set_option maxHeartbeats 1000000 in
theorem lines_any (s : ByteArray) (hs : s.size ≤ 1099511627776) (w : World) :
    Calls Tryd.prog 15 #[.string s] w fun e w' =>
      (∃ v, e = .returned v ∧ w'.ownsRow w.heap.size 9 1 v (linesTo s s.size).1.length ((linesTo s s.size).1.map Value.string)) ∧ Below w.heap.size w w' := by
  obtain ⟨i0, hi, hz0, hz1, hz2⟩ := info_parts Tryd.infoStr
  go_enter Tryd.func15, Tryd.ntmps15
  go_wp2
  go_loopw [3, 4, 5] (fun v f i wr => ∃ k : Nat, k ≤ s.size ∧ i = .int .i64 (k : Int) ∧ f = .int .i64 ((linesTo s k).2 : Nat) ∧ LinSt w.heap.size v (linesTo s k).1 w wr) (fun _ _ i _ => s.size - (intOf i).toNat)
  case atStart =>
    exact ⟨0, Nat.zero_le _, rfl, rfl, World.ownsRow_made w #[] 0 (Nat.le_refl _) (Nat.zero_le _) rfl, (Below.refl _ w).alloc (Nat.le_refl _) _⟩
  case round =>
    obtain ⟨k, hk, rfl, rfl, h⟩ := hrel
    by_cases hlt : k < s.size
    · by_cases hb : s[k] = 10
      · have hg : s.data.toList.getD k 0 = s[k] := (Lib.getD_at s k hlt).symm
        have e1 : (linesTo s (k + 1)).1 = (linesTo s k).1 ++ [s.extract (linesTo s k).2 k] := by
          conv => lhs; unfold linesTo
          rw [if_pos (hg.trans hb)]
        have e2 : (linesTo s (k + 1)).2 = k + 1 := by
          conv => lhs; unfold linesTo
          rw [if_pos (hg.trans hb)]
        have hf := linesTo_from s k
        have hn := linesTo_length s k
        have E1 := Lib.hid e1
        have E2 := Lib.hid e2
        clear e1 e2 hg
        have h1 : ((s[k].toNat : Int) == 10) = true := by rw [hb]; rfl
        obtain ⟨f, hf0⟩ : ∃ f, (linesTo s k).2 = f := ⟨_, rfl⟩
        obtain ⟨ls, hl0⟩ : ∃ ls, (linesTo s k).1 = ls := ⟨_, rfl⟩
        rw [hf0, hl0] at E1
        rw [hf0] at hf ⊢
        rw [hl0] at h hn
        clear hf0 hl0 hb
        obtain ⟨hown, hbl⟩ := h
        have q0 : (0 : Int) ≤ (f : Int) := by omega
        have q1 : (f : Int) ≤ (k : Int) := by omega
        have q2 : (k : Int) ≤ (s.size : Int) := by omega
        have HB := Lib.hid hbl
        have hsz := hbl.size
        clear hbl
        go_wp2_with (at_builtin; refine wpList_append_lies _ rfl _ _ 41 rfl w.heap.size 9 i0 (.string ⟨#[]⟩) 1 16 Tryd.underlying41 hi hz0 hz1 hz2 rfl (by decide) _ _ _ rfl (own_below hown ((Below.refl _ wr).alloc (Nat.le_refl _) _)) ⟨wr.heap.size, 0, none⟩ 1 1 [.string (s.extract f k)] rfl rfl (cell_one_new _ _ _) (by simp [Value.oneCell']) (by decide) (by unfold maxLen; omega) (by omega) (Nat.le_trans hsz (by simp)) (wr.heap.size + 1) (by simp) ?_; intro g cap w3 hown3 hgrow hg3 hlt3)
        go_roundw
        case rel =>
          refine ⟨k + 1, by omega, by go_num, ?_, ?_, ?_⟩
          · rw [E2.out]; go_num
          · rw [E1.out]
            have := hown3
            simpa using this
          · exact (HB.out.alloc hsz _).grown hgrow (Nat.le_trans hsz (by simp)) (fun q hq => (hown.lt q hq).1)
        case measure => go_light; simp [intOf]; omega
      · have hg : s.data.toList.getD k 0 = s[k] := (Lib.getD_at s k hlt).symm
        have e1 : linesTo s (k + 1) = linesTo s k := by
          conv => lhs; unfold linesTo
          rw [if_neg (by rw [hg]; exact hb)]
        have E1 := Lib.hid e1
        have h1 : ((s[k].toNat : Int) == 10) = false := by
          have := byte_ne (n := 10) hb
          rw [bne_iff_ne] at this
          rw [beq_eq_false_iff_ne]
          exact this
        clear e1 hg hb
        go_wp2
        go_roundw
        case rel => exact ⟨k + 1, by omega, by go_num, by rw [E1.out], by rw [E1.out]; exact h⟩
        case measure => go_light; simp [intOf]; omega
    · obtain rfl : k = s.size := by omega
      obtain ⟨hown, hbl⟩ := h
      have HO := Lib.hid hown
      clear hown
      go_wp2
      go_ret
      exact ⟨⟨_, rfl, HO.out⟩, hbl⟩
end Go.Proofs.YtdalfkdfpeffdaaDoor
