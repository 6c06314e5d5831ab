/- Proved here: the text of a plain cost is parsed back as that cost; different plain costs have different texts. -/
import Derived.Test.YtdalfkdfpeffdaaDoorMF
import Derived.Test.YtdalfkdfpeffdaaDoorMP
namespace Go.Proofs.YtdalfkdfpeffdaaDoor
open Go.Lib

theorem item_list (a : ByteArray) (n : Int) : (item a n).data.toList = a.data.toList ++ [32] ++ Lib.itoa n := by
  unfold item
  rw [ByteArray.data_append, ByteArray.data_append]
  simp

theorem wlist0 : W0.data.toList = [105, 115, 115, 117, 101, 115] := rfl
theorem wlist1 : W1.data.toList = [115, 99, 97, 108, 97, 114, 115] := rfl
theorem wlist2 : W2.data.toList = [109, 111, 118, 101, 115] := rfl
theorem wlist3 : W3.data.toList = [109, 97, 115, 107, 101, 100] := rfl

theorem item_free (a : ByteArray) (n : Int) (h0 : 0 ≤ n) (ha : (44 : UInt8) ∉ a.data.toList) : (44 : UInt8) ∉ (item a n).data.toList := by
  rw [item_list]
  intro h
  rcases List.mem_append.1 h with h | h
  · rcases List.mem_append.1 h with h | h
    · exact ha h
    · exact absurd (List.mem_singleton.1 h) (by decide)
  · have := itoa_dig n h0 _ h
    revert this; decide

theorem digits_item (a : ByteArray) (n : Int) (ha : (32 : UInt8) ∉ a.data.toList) : (digitsB (item a n)).data.toList = Lib.itoa n := by
  unfold digitsB
  rw [item_list, cut_at 32 _ _ ha]

theorem num_item (a : ByteArray) (n : Int) (h0 : 0 ≤ n) (h1 : n < 1000000000000000000) (ha : (32 : UInt8) ∉ a.data.toList) : numB (item a n) = some n := by
  unfold numB
  rw [digits_item a n ha, atoi_itoa n h0 h1]

theorem text_list (c : C4) : (textB c).data.toList = (item W0 c.i).data.toList ++ ((44 : UInt8) :: [32] ++ ((item W1 c.s).data.toList ++ ((44 : UInt8) :: [32] ++ ((item W2 c.m).data.toList ++ ((44 : UInt8) :: [32] ++ (item W3 c.k).data.toList))))) := by
  unfold textB Lib.join
  simp [List.intercalate, List.intersperse]

structure NonNeg (c : C4) : Prop where
  i : 0 ≤ c.i
  s : 0 ≤ c.s
  m : 0 ≤ c.m
  k : 0 ≤ c.k

theorem parts_text (c : C4) (h : NonNeg c) : partsB (textB c) = [item W0 c.i, item W1 c.s, item W2 c.m, item W3 c.k] := by
  have e : (partsB (textB c)).map (·.data.toList) = [item W0 c.i, item W1 c.s, item W2 c.m, item W3 c.k].map (·.data.toList) := by
    have e1 : (partsB (textB c)).map (·.data.toList) = split (textB c).data.toList ((44 : UInt8) :: [32]) := splitB_data sepB 0 _ _
    rw [e1, text_list]
    rw [split_step 44 [32] _ _ (item_free W0 c.i h.i (by decide)), split_step 44 [32] _ _ (item_free W1 c.s h.s (by decide)), split_step 44 [32] _ _ (item_free W2 c.m h.m (by decide)), split_last 44 [32] _ (item_free W3 c.k h.k (by decide))]
    rfl
  have inj : ∀ (l r : List ByteArray), l.map (·.data.toList) = r.map (·.data.toList) → l = r := by
    intro l
    induction l with
    | nil => intro r hr; cases r with
      | nil => rfl
      | cons x r => simp at hr
    | cons x l ih =>
      intro r hr
      cases r with
      | nil => simp at hr
      | cons y r =>
        simp only [List.map_cons, List.cons.injEq] at hr
        rw [bytes_ext hr.1, ih r hr.2]
  exact inj _ _ e

theorem plainB_out {c : C4} (h : plainB c.i c.s c.m c.k = true) : (0 ≤ c.i ∧ c.i ≤ 1099511627776) ∧ (0 ≤ c.s ∧ c.s ≤ 1099511627776) ∧ (0 ≤ c.m ∧ c.m ≤ 1099511627776) ∧ (0 ≤ c.k ∧ c.k ≤ 1099511627776) := by
  unfold plainB at h
  rw [decide_eq_true_iff] at h
  omega

/-- Parse inverts Text. -/
theorem parse_text (c : C4) (h : plainB c.i c.s c.m c.k = true) : parseM (textB c) = (c, 0) := by
  obtain ⟨h1, h2, h3, h4⟩ := plainB_out h
  unfold parseM
  rw [parts_text c ⟨h1.1, h2.1, h3.1, h4.1⟩]
  simp only [num_item W0 c.i h1.1 (by omega) (by decide), num_item W1 c.s h2.1 (by omega) (by decide), num_item W2 c.m h3.1 (by omega) (by decide), num_item W3 c.k h4.1 (by omega) (by decide)]
  rw [if_pos ⟨h, trivial⟩]

theorem text_inj {a b : C4} (ha : plainB a.i a.s a.m a.k = true) (hb : plainB b.i b.s b.m b.k = true) (h : textB a = textB b) : a = b := by
  have h1 := parse_text a ha
  rw [h, parse_text b hb] at h1
  exact (Prod.mk.inj h1).1.symm

/-- What Parse answers. -/
theorem parse_cases (s : ByteArray) : (∃ c : C4, plainB c.i c.s c.m c.k = true ∧ textB c = s ∧ parseM s = (c, 0)) ∨ parseM s = (C4.zero, 3) := by
  unfold parseM
  split
  · split
    · split
      · rename_i h; exact .inl ⟨_, h.1, h.2, rfl⟩
      · exact .inr rfl
    · exact .inr rfl
  · exact .inr rfl

theorem text_size (c : C4) (h : plainB c.i c.s c.m c.k = true) : 0 < (textB c).size ∧ (textB c).size ≤ 118 := by
  obtain ⟨h1, h2, h3, h4⟩ := plainB_out h
  have e : (textB c).size = (textB c).data.toList.length := by rw [Array.length_toList]; rfl
  have i0 := Lib.itoa_length_le c.i (by omega) (by omega)
  have i1 := Lib.itoa_length_le c.s (by omega) (by omega)
  have i2 := Lib.itoa_length_le c.m (by omega) (by omega)
  have i3 := Lib.itoa_length_le c.k (by omega) (by omega)
  rw [e, text_list]
  simp only [item_list, wlist0, wlist1, wlist2, wlist3, List.length_append, List.length_cons, List.length_nil]
  omega
end Go.Proofs.YtdalfkdfpeffdaaDoor
