/- Proved here: meter.joined lays the words of a line, padded to their widths; for words and widths of at most 2^20. -/
import Derived.Test.YtdalfkdfpeffdaaDoorMG
namespace Go.Proofs.YtdalfkdfpeffdaaDoor
open Go.RowKit

/-- A builder of the call's own, that holds the bytes l. -/
def Bld (b : Nat) (l : List UInt8) (w : World) : Prop := Lib.IsBuilder 68 5 b b (Lib.byteCells l) w

theorem Bld.next {b : Nat} {l : List UInt8} {w w' : World} (h : Bld b l w) (hb : Below w.heap.size w w') : Bld b l w' := by
  rcases h with ⟨h1, v, h2, h3, h4⟩ | ⟨h1, v, h2, h3, h4⟩
  · exact .inl ⟨h1, v, by rw [hb.block b (Array.getElem?_eq_some_iff.1 h2).1]; exact h2, own_below h3 hb, h4⟩
  · exact .inr ⟨h1, v, by rw [hb.block b (Array.getElem?_eq_some_iff.1 h2).1]; exact h2, own_below h3 hb, h4⟩

theorem Bld.lt {b : Nat} {l : List UInt8} {w : World} (h : Bld b l w) : b < w.heap.size := by
  rcases h with ⟨h1, v, h2, h3, h4⟩ | ⟨h1, v, h2, h3, h4⟩ <;> exact (Array.getElem?_eq_some_iff.1 h2).1

theorem byteCells_add (l : List UInt8) (s : ByteArray) : Lib.byteCells l ++ Lib.strCells s = Lib.byteCells (l ++ s.data.toList) := by
  unfold Lib.byteCells Lib.strCells; rw [List.map_append]

theorem write_any (b : Nat) (l : List UInt8) (s : ByteArray) (w : World) (h : Bld b l w) (hlen : l.length + s.size ≤ 140737488355328) :
    Calls Tryd.prog 29 #[.pointer (some ⟨b, 0, none⟩), .string s] w fun e w' =>
      e = .returned (.tuple #[.int .i64 s.size, .nilIface]) ∧ Bld b (l ++ s.data.toList) w' ∧ Below b w w' :=
  (Any.Builder_WriteString { Tryd.lays156 with } Tryd.Builder_Extra_156 b b (Lib.byteCells l) s w h (by rw [Lib.byteCells_length]; exact hlen) (Nat.le_of_lt h.lt)).mono
    fun _ _ ⟨he, h1, h2⟩ => ⟨he, by rw [byteCells_add] at h1; exact .inr h1, h2⟩

theorem string_any (b : Nat) (l : List UInt8) (w : World) (h : Bld b l w) :
    Calls Tryd.prog 30 #[.pointer (some ⟨b, 0, none⟩)] w fun e w' => e = .returned (.string ⟨l.toArray⟩) ∧ Below b w w' :=
  Tryd.Builder_String_any b b l w h (Nat.le_of_lt h.lt)

/-- Blanks, as bytes. -/
def padB (n : Nat) : ByteArray := ⟨(List.replicate n 32).toArray⟩
theorem padB_size (n : Nat) : (padB n).size = n := by simp [padB, ByteArray.size]
theorem padB_list (n : Nat) : (padB n).data.toList = List.replicate n 32 := by simp [padB]

theorem repeatL_blank : ∀ n, Lib.repeatL [32] n = List.replicate n 32
  | 0 => rfl
  | n + 1 => by rw [Lib.repeatL, repeatL_blank n]; rfl

/-- strings.Repeat of a blank. -/
theorem blanks_any (n : Int) (h0 : 0 ≤ n) (h1 : n ≤ 1048576) (w : World) :
    Calls Tryd.prog 49 #[.string ⟨#[32]⟩, .int .i64 n] w fun e w' => e = .returned (.string (padB n.toNat)) ∧ Below w.heap.size w w' := by
  obtain ⟨k, rfl⟩ := Int.eq_ofNat_of_zero_le h0
  refine (Tryd.strings_Repeat ⟨#[32]⟩ k w (by omega) (by show 1 * k ≤ _; omega)).mono fun e w' ⟨he, hb⟩ => ⟨?_, hb⟩
  unfold padB; rw [he, Int.toNat_natCast, ← repeatL_blank k]

/-- The i-th word of a line, padded. -/
def segL (i wd : Nat) (x : List UInt8) : List UInt8 :=
  if i = 0 then x ++ List.replicate (wd - x.length) 32 else [32, 32] ++ List.replicate (wd - x.length) 32 ++ x
/-- The first k words of a line. -/
def preL (ws : List Nat) (ls : List ByteArray) (k : Nat) : List UInt8 := ((List.range k).map fun i => segL i (ws.getD i 0) (ls.getD i ByteArray.empty).data.toList).flatten
theorem preL_succ (ws : List Nat) (ls : List ByteArray) (k : Nat) : preL ws ls (k + 1) = preL ws ls k ++ segL k (ws.getD k 0) (ls.getD k ByteArray.empty).data.toList := by
  unfold preL; rw [List.range_succ, List.map_append, List.flatten_append]; simp
/-- A line. -/
def lineB (ws : List Nat) (ls : List ByteArray) : ByteArray := ⟨(preL ws ls ls.length).toArray⟩ ++ ⟨#[10]⟩

theorem segL_len (i wd : Nat) (x : List UInt8) (h : x.length ≤ wd) : (segL i wd x).length ≤ wd + 2 := by
  unfold segL; split <;> simp <;> omega
theorem preL_len (ws : List Nat) (ls : List ByteArray) (W : Nat) : ∀ k, (∀ i, i < k → ws.getD i 0 ≤ W ∧ (ls.getD i ByteArray.empty).data.toList.length ≤ ws.getD i 0) → (preL ws ls k).length ≤ k * (W + 2)
  | 0, _ => by simp [preL]
  | k + 1, h => by
    rw [preL_succ, List.length_append, Nat.succ_mul]
    have h1 := preL_len ws ls W k (fun i hi => h i (by omega))
    have h2 := segL_len k (ws.getD k 0) (ls.getD k ByteArray.empty).data.toList (h k (by omega)).2
    have := (h k (by omega)).1
    omega

set_option maxRecDepth 100000 in
set_option maxHeartbeats 1000000 in
theorem joined_any (bw : Nat) (cw : Nat) (bl : Nat) (cl : Nat) (ws : List Nat) (ls : List ByteArray) (W : Nat) (w : World) (hW : W ≤ 1048576) (hn : ls.length ≤ 1048576) (hne : ws.length = ls.length)
    (hbw : bw < w.heap.size) (hbl : bl < w.heap.size)
    (hcw : ∀ i, i < ws.length → w.cell? ⟨bw, i, none⟩ = some (.int .i64 (ws.getD i 0 : Nat))) (hcl : ∀ i, i < ls.length → w.cell? ⟨bl, i, none⟩ = some (.string (ls.getD i ByteArray.empty)))
    (hle : ∀ i, i < ls.length → ws.getD i 0 ≤ W ∧ (ls.getD i ByteArray.empty).data.toList.length ≤ ws.getD i 0) :
    Calls Tryd.prog 38 #[.slice (some ⟨bw, 0, none⟩) ws.length cw, .slice (some ⟨bl, 0, none⟩) ls.length cl] w fun e w' =>
      e = .returned (.string (lineB ws ls)) ∧ Below w.heap.size w w' := by
  have HCW := Lib.hid hcw
  have HCL := Lib.hid hcl
  have HLE := Lib.hid hle
  have HNE := Lib.hid hne
  have hln : ls.length ≤ ws.length := by omega
  clear hcw hcl hle
  have B0 := Lib.hid (Lib.fresh_isBuilder 68 5 w)
  go_enter Tryd.func38, Tryd.ntmps38
  clear hne
  go_wp2
  go_loopw [11] (fun q wr => ∃ k : Nat, k ≤ ls.length ∧ q = .int .i64 k ∧ Bld w.heap.size (preL ws ls k) wr ∧ Below w.heap.size w wr) (fun q _ => ls.length - (intOf q).toNat)
  case atStart => exact ⟨0, Nat.zero_le _, rfl, B0.out, (Below.refl _ w).alloc (Nat.le_refl _) _⟩
  case round =>
    obtain ⟨k, hk, rfl, hB, hbl'⟩ := hrel
    by_cases hlt : k < ls.length
    · have HB := Lib.hid hB
      have hx := (hbl'.cell (p := ⟨bl, k, none⟩) hbl).trans (HCL.out k hlt)
      have hwd := (hbl'.cell (p := ⟨bw, k, none⟩) hbw).trans (HCW.out k (by have := HNE.out; omega))
      obtain ⟨hl1, hl2⟩ := HLE.out k hlt
      have HS := Lib.hid (preL_succ ws ls k)
      have HP := Lib.hid (preL_len ws ls W k (fun i hi => HLE.out i (by omega)))
      obtain ⟨x, hxe⟩ : ∃ x, ls.getD k ByteArray.empty = x := ⟨_, rfl⟩
      obtain ⟨wd, hwe⟩ : ∃ wd, ws.getD k 0 = wd := ⟨_, rfl⟩
      rw [hxe] at hx hl2 HS
      rw [hwe] at hwd hl1 hl2 HS
      have hxs : x.size ≤ wd := by have e : x.data.toList.length = x.size := Array.length_toList; omega
      clear hxe hwe hl2 hB
      go_wp2_with (go_at_call 49; fail)
      refine (blanks_any _ (by omega) (by omega) _).mono ?_
      rintro e w2 ⟨rfl, hb2⟩
      have HB2 := Lib.hid (HB.out.next hb2)
      have hbl2 := hbl'.trans (hb2.mono (Nat.le_of_lt HB.out.lt))
      clear hb2 hx hwd hbl'
      obtain ⟨P, hP⟩ : ∃ P, padB ((wd : Int) - x.size).toNat = P := ⟨_, rfl⟩
      rw [hP]
      have hps : P.size ≤ 1048576 := by rw [← hP, padB_size]; omega
      have HPL : Hid (P.data.toList = List.replicate (wd - x.data.toList.length) 32) := by
        have e : x.data.toList.length = x.size := Array.length_toList
        show _ = _
        rw [← hP, padB_list, e]
        congr 1
        omega
      clear hP
      by_cases h0 : k = 0
      · subst h0
        go_wp2_with (go_at_call 29; fail)
        refine (write_any w.heap.size (preL ws ls 0) (x ++ P) _ HB2.out (by rw [ByteArray.size_append]; have := HP.out; omega)).mono ?_
        rintro e w3 ⟨rfl, hB3, hb3⟩
        have HB3 : Hid (Bld w.heap.size (preL ws ls (0 + 1)) w3) := by
          have e : preL ws ls (0 + 1) = preL ws ls 0 ++ (x ++ P).data.toList := by
            rw [HS.out, ByteArray.data_append, Array.toList_append, HPL.out]; rfl
          show Bld _ _ _
          rw [e]; exact hB3
        have hbl3 := hbl2.trans hb3
        clear hB3 hb3 hbl2
        go_wp2
        go_roundw
        case rel => exact ⟨0 + 1, by omega, by go_num, HB3.out, hbl3⟩
        case measure => simp [intOf]; omega
      · have hk0 : ((k : Int) == 0) = false := by rw [beq_eq_false_iff_ne]; omega
        go_wp2_with (go_at_call 29; fail)
        refine (write_any w.heap.size (preL ws ls k) ((⟨#[32, 32]⟩ : ByteArray) ++ P ++ x) _ HB2.out (by rw [ByteArray.size_append, ByteArray.size_append]; have := HP.out; have e : (⟨#[32, 32]⟩ : ByteArray).size = 2 := rfl; have hm : k * (W + 2) ≤ 1048576 * 1048578 := Nat.mul_le_mul (by omega) (by omega); omega)).mono ?_
        rintro e w3 ⟨rfl, hB3, hb3⟩
        have HB3 : Hid (Bld w.heap.size (preL ws ls (k + 1)) w3) := by
          have e : preL ws ls (k + 1) = preL ws ls k ++ ((⟨#[32, 32]⟩ : ByteArray) ++ P ++ x).data.toList := by
            rw [HS.out, ByteArray.data_append, ByteArray.data_append, Array.toList_append, Array.toList_append, HPL.out]
            unfold segL; rw [if_neg h0]
          show Bld _ _ _
          rw [e]; exact hB3
        have hbl3 := hbl2.trans hb3
        clear hB3 hb3 hbl2
        go_wp2
        go_roundw
        case rel => exact ⟨k + 1, by omega, by go_num, HB3.out, hbl3⟩
        case measure => simp [intOf]; omega
    · obtain rfl : k = ls.length := by omega
      have HB := Lib.hid hB
      have HP := Lib.hid (preL_len ws ls W ls.length (fun i hi => HLE.out i hi))
      clear hB
      go_wp2_with (go_at_call 30; fail)
      refine (string_any w.heap.size (preL ws ls ls.length) _ HB.out).mono ?_
      rintro e w2 ⟨rfl, hb2⟩
      obtain ⟨L, hL⟩ : ∃ L, (⟨(preL ws ls ls.length).toArray⟩ : ByteArray) = L := ⟨_, rfl⟩
      have hLs : ¬ 9223372036854775807 < L.size + 1 := by
        have hm : ls.length * (W + 2) ≤ 1048576 * 1048578 := Nat.mul_le_mul hn (by omega)
        have h1 := HP.out
        have e : L.size = (preL ws ls ls.length).length := by rw [← hL]; simp [ByteArray.size]
        omega
      rw [hL]
      have HR : Hid (lineB ws ls = L ++ (⟨#[10]⟩ : ByteArray)) := by show _ = _; rw [← hL]; rfl
      clear hL
      go_wp2
      go_ret
      exact ⟨by rw [HR.out]; rfl, hbl'.trans hb2⟩
end Go.Proofs.YtdalfkdfpeffdaaDoor
