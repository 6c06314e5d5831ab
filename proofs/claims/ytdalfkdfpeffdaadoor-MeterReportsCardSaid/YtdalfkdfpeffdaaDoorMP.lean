/- Proved here: numerals and splits as lists of bytes: a numeral is read back as its number, a text is split where its separators stand. -/
import Derived.Lib.Split
import Derived.Lib.ItoaNum
import Derived.Lib.AtoiAll
namespace Go.Proofs.YtdalfkdfpeffdaaDoor
open Go.Lib

theorem dig_of (k : Nat) (h : k < 10) : (UInt8.ofNat (48 + k)).toNat = 48 + k := by
  rw [UInt8.toNat_ofNat']
  omega

/-- The digits of a number are digits. -/
theorem decDigits_dig (u : Nat) : ∀ c ∈ decDigits u, 48 ≤ c.toNat ∧ c.toNat ≤ 57 := by
  induction u using Nat.strongRecOn with
  | _ u ih =>
    intro c hc
    by_cases h : u < 10
    · rw [decDigits, dif_pos h] at hc
      rw [List.mem_singleton.1 hc, dig_of u h]; omega
    · rw [decDigits, dif_neg h] at hc
      rcases List.mem_append.1 hc with hc | hc
      · exact ih (u / 10) (by omega) c hc
      · rw [List.mem_singleton.1 hc, dig_of (u % 10) (by omega)]; omega

theorem decDigits_ne (u : Nat) : decDigits u ≠ [] := by
  intro h
  have := decDigits_length u
  have := nDigits_pos u
  rw [h] at *
  simp at *
  omega

/-- Digits are read as the number that they spell. -/
def spell (acc : Nat) (l : List UInt8) : Nat := l.foldl (fun a c => a * 10 + (c.toNat - 48)) acc

theorem spell_dec (u : Nat) : spell 0 (decDigits u) = u := by
  induction u using Nat.strongRecOn with
  | _ u ih =>
    by_cases h : u < 10
    · rw [decDigits, dif_pos h]
      show 0 * 10 + ((UInt8.ofNat (48 + u)).toNat - 48) = u
      rw [dig_of u h]; omega
    · rw [decDigits, dif_neg h]
      unfold spell
      rw [List.foldl_append]
      have := ih (u / 10) (by omega)
      unfold spell at this
      rw [this]
      show u / 10 * 10 + ((UInt8.ofNat (48 + u % 10)).toNat - 48) = u
      rw [dig_of (u % 10) (by omega)]; omega

theorem spell_le (l : List UInt8) : ∀ a, a ≤ spell a l := by
  induction l with
  | nil => intro a; exact Nat.le_refl _
  | cons c r ih =>
    intro a
    have := ih (a * 10 + (c.toNat - 48))
    show a ≤ spell (a * 10 + (c.toNat - 48)) r
    omega

theorem parse_spell (l : List UInt8) : ∀ a, (∀ c ∈ l, 48 ≤ c.toNat ∧ c.toNat ≤ 57) → spell a l < 1000000000000000000 → parseUint10 a l = .ok (spell a l) := by
  induction l with
  | nil => intro a _ _; rfl
  | cons c r ih =>
    intro a hd hs
    have h1 := hd c (by simp)
    have hs' : spell (a * 10 + (c.toNat - 48)) r < 1000000000000000000 := hs
    have h2 := spell_le r (a * 10 + (c.toNat - 48))
    rw [parseUint10, if_pos h1, if_neg (by omega), if_neg (by omega)]
    exact ih _ (fun x hx => hd x (by simp [hx])) hs'

theorem atoi_itoa (n : Int) (h0 : 0 ≤ n) (h1 : n < 1000000000000000000) : atoiAll (itoa n) = .ok n := by
  obtain ⟨u, rfl⟩ := Int.eq_ofNat_of_zero_le h0
  have e : itoa (u : Int) = decDigits u := by unfold itoa; rw [if_neg (by omega)]; simp
  rw [e]
  have hp : parseUint10 0 (decDigits u) = .ok u := by
    have := parse_spell (decDigits u) 0 (decDigits_dig u) (by rw [spell_dec]; omega)
    rw [spell_dec] at this
    exact this
  have hm : parseMag (decDigits u) = .ok u := by unfold parseMag; rw [if_neg (decDigits_ne u)]; exact hp
  have hd := decDigits_dig u
  cases hl : decDigits u with
  | nil => exact absurd hl (decDigits_ne u)
  | cons c r =>
    rw [hl] at hd hm
    have hc := hd c (by simp)
    unfold atoiAll
    dsimp only
    rw [if_neg (by omega), hm]
    dsimp only
    rw [if_neg (by omega), if_neg (by omega), if_neg (by omega)]

theorem itoa_dig (n : Int) (h0 : 0 ≤ n) : ∀ c ∈ itoa n, 48 ≤ c.toNat ∧ c.toNat ≤ 57 := by
  unfold itoa
  rw [if_neg (by omega)]
  exact decDigits_dig _
theorem itoa_ne (n : Int) (h0 : 0 ≤ n) : itoa n ≠ [] := by
  unfold itoa
  rw [if_neg (by omega)]
  exact decDigits_ne _

/-- The first ", " of a text whose first part has no comma. -/
theorem index_sep (a : UInt8) (t : List UInt8) : ∀ (x r : List UInt8), a ∉ x → index (x ++ (a :: t ++ r)) (a :: t) = x.length := by
  intro x r hx
  refine index_first (by simp) ?_ ?_
  · simp [occAt]
  · intro j hj
    unfold occAt
    rw [List.drop_append_of_le_length (by omega)]
    cases hd : x.drop j with
    | nil =>
      have := congrArg List.length hd
      simp at this
      omega
    | cons b q =>
      have hb : b ∈ x := by
        have : b ∈ x.drop j := by rw [hd]; simp
        exact List.mem_of_mem_drop this
      have hne : (a == b) = false := by
        rw [beq_eq_false_iff_ne]
        intro e
        rw [e] at hx
        exact hx hb
      simp [List.isPrefixOf, hne]

theorem index_absent (a : UInt8) (t x : List UInt8) (hx : a ∉ x) : index x (a :: t) = -1 := by
  refine index_none ?_
  intro j _
  unfold occAt
  cases hd : x.drop j with
  | nil => rfl
  | cons b q =>
    have hb : b ∈ x := by
      have : b ∈ x.drop j := by rw [hd]; simp
      exact List.mem_of_mem_drop this
    have hne : (a == b) = false := by
      rw [beq_eq_false_iff_ne]
      intro e
      rw [e] at hx
      exact hx hb
    simp [List.isPrefixOf, hne]

theorem split_step (a : UInt8) (t x r : List UInt8) (hx : a ∉ x) : split (x ++ (a :: t ++ r)) (a :: t) = x :: split r (a :: t) := by
  have hi := index_sep a t x r hx
  have hdrop : (x ++ (a :: t ++ r)).drop (x.length + (a :: t).length) = r := by
    rw [← List.append_assoc, List.drop_left' (by simp)]
  unfold split
  rw [count_hit (by simp) hi, hdrop, Nat.add_comm, splitK, hi, if_neg (by rw [beq_iff_eq]; omega)]
  rw [Int.toNat_natCast, Nat.add_zero, hdrop, List.take_left' rfl]
theorem split_last (a : UInt8) (t x : List UInt8) (hx : a ∉ x) : split x (a :: t) = [x] := by
  unfold split
  rw [count_miss (index_absent a t x hx)]
  rfl

theorem cut_at (a : UInt8) (x r : List UInt8) (hx : a ∉ x) : (cut (x ++ [a] ++ r) [a]).2.1 = r := by
  have hi : index (x ++ [a] ++ r) [a] = x.length := by
    have := index_sep a [] x r hx
    rw [List.append_assoc]
    exact this
  unfold cut
  rw [hi, if_pos (by omega), Int.toNat_natCast]
  show (x ++ [a] ++ r).drop (x.length + [a].length) = r
  rw [List.drop_left' (by simp)]

theorem bytes_ext {a b : ByteArray} (h : a.data.toList = b.data.toList) : a = b := by
  cases a; cases b
  congr 1
  exact Array.toList_inj.1 h
theorem bytes_list (l : List UInt8) : (⟨l.toArray⟩ : ByteArray).data.toList = l := rfl
end Go.Proofs.YtdalfkdfpeffdaaDoor
