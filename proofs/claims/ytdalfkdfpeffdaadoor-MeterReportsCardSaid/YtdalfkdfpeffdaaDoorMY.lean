/- Proved here: the lines of a report of at most nine names and costs, as lists of bytes: how many, how long, how they begin and end, and what they are in the other order. -/
import Derived.Test.YtdalfkdfpeffdaaDoorMX
import Derived.Test.YtdalfkdfpeffdaaDoorMQ
import Derived.Lib.Hide
namespace Go.Proofs.YtdalfkdfpeffdaaDoor
open Go.RowKit

/-- The lines that end in the first i bytes of a text, and where the next one begins. -/
def linesTo (s : ByteArray) : Nat → List ByteArray × Nat
  | 0 => ([], 0)
  | i + 1 => if s.data.toList.getD i 0 = 10 then ((linesTo s i).1 ++ [s.extract (linesTo s i).2 i], i + 1) else linesTo s i
theorem linesTo_from (s : ByteArray) : ∀ i, (linesTo s i).2 ≤ i
  | 0 => Nat.le_refl _
  | i + 1 => by
    unfold linesTo
    split
    · exact Nat.le_refl _
    · exact Nat.le_succ_of_le (linesTo_from s i)
theorem linesTo_length (s : ByteArray) : ∀ i, (linesTo s i).1.length ≤ i
  | 0 => Nat.le_refl _
  | i + 1 => by
    unfold linesTo
    have := linesTo_length s i
    split
    · simp; omega
    · omega

/-- Lines that end in a line feed each, one behind the other. -/
def joinLines (ls : List (List UInt8)) : List UInt8 := (ls.map (· ++ [10])).flatten
theorem joinLines_snoc (ls : List (List UInt8)) (x : List UInt8) : joinLines (ls ++ [x]) = joinLines ls ++ (x ++ [10]) := by
  simp [joinLines]

theorem rev_ind {α : Type} {p : List α → Prop} (h0 : p []) (h1 : ∀ l x, p l → p (l ++ [x])) (l : List α) : p l := by
  have h : ∀ l : List α, p l.reverse := by
    intro l
    induction l with
    | nil => exact h0
    | cons x l ih => rw [List.reverse_cons]; exact h1 _ _ ih
  have := h l.reverse
  rwa [List.reverse_reverse] at this

theorem linesTo_no (s : ByteArray) (i : Nat) (h : s.data.toList.getD i 0 ≠ 10) : linesTo s (i + 1) = linesTo s i := by
  conv => lhs; unfold linesTo
  rw [if_neg h]
theorem linesTo_yes (s : ByteArray) (i : Nat) (h : s.data.toList.getD i 0 = 10) : linesTo s (i + 1) = ((linesTo s i).1 ++ [s.extract (linesTo s i).2 i], i + 1) := by
  conv => lhs; unfold linesTo
  rw [if_pos h]

theorem getD_mid (a : List UInt8) (c : UInt8) (b : List UInt8) : (a ++ c :: b).getD a.length 0 = c := by
  rw [List.getD_eq_getElem?_getD, List.getElem?_append_right (Nat.le_refl _)]
  simp

/-- What comes of the bytes of a text up to a place within the next line. -/
def AtLines (s : ByteArray) (ls : List (List UInt8)) : Prop := (∀ l ∈ ls, (10 : UInt8) ∉ l) → ∀ (x : List UInt8), (10 : UInt8) ∉ x → ∀ (y : List UInt8), s.data.toList = joinLines ls ++ (x ++ y) →
    linesTo s ((joinLines ls).length + x.length) = (ls.map fun l => ⟨l.toArray⟩, (joinLines ls).length)

theorem at_more (s : ByteArray) (ls : List (List UInt8)) (h0 : ∀ y, s.data.toList = joinLines ls ++ y → linesTo s (joinLines ls).length = (ls.map fun l => ⟨l.toArray⟩, (joinLines ls).length)) :
    ∀ (x : List UInt8), (10 : UInt8) ∉ x → ∀ (y : List UInt8), s.data.toList = joinLines ls ++ (x ++ y) → linesTo s ((joinLines ls).length + x.length) = (ls.map fun l => ⟨l.toArray⟩, (joinLines ls).length) := by
  intro x
  refine rev_ind (p := fun x => (10 : UInt8) ∉ x → ∀ (y : List UInt8), s.data.toList = joinLines ls ++ (x ++ y) → linesTo s ((joinLines ls).length + x.length) = (ls.map fun l => ⟨l.toArray⟩, (joinLines ls).length)) ?_ ?_ x
  · intro _ y hs
    exact h0 y (by simpa using hs)
  · intro x c ih hx y hs
    have h1 := ih (fun h => hx (by simp [h])) (c :: y) (by rw [hs]; simp)
    have e : (joinLines ls).length + (x ++ [c]).length = ((joinLines ls).length + x.length) + 1 := by simp; omega
    have hc : s.data.toList.getD ((joinLines ls).length + x.length) 0 = c := by
      have := getD_mid (joinLines ls ++ x) c y
      rw [List.length_append] at this
      have e2 : joinLines ls ++ ((x ++ [c]) ++ y) = joinLines ls ++ x ++ c :: y := by simp
      rw [hs, e2]
      exact this
    rw [e, linesTo_no s _ (by rw [hc]; exact fun h => hx (by simp [h])), h1]

theorem linesTo_at (s : ByteArray) (ls : List (List UInt8)) : AtLines s ls := by
  refine rev_ind (p := AtLines s) ?_ ?_ ls
  · intro _
    exact at_more s [] (fun y _ => rfl)
  · intro ls l ih hf
    refine at_more s (ls ++ [l]) ?_
    intro y hs
    have hl : (10 : UInt8) ∉ l := hf l (by simp)
    have h1 := ih (fun z hz => hf z (by simp [hz])) l hl (10 :: y) (by rw [hs, joinLines_snoc]; simp)
    have e : (joinLines (ls ++ [l])).length = ((joinLines ls).length + l.length) + 1 := by rw [joinLines_snoc]; simp; omega
    have hs2 : s.data.toList = (joinLines ls ++ l) ++ 10 :: y := by rw [hs, joinLines_snoc]; simp
    have hc : s.data.toList.getD ((joinLines ls).length + l.length) 0 = 10 := by
      have := getD_mid (joinLines ls ++ l) 10 y
      rw [List.length_append] at this
      rw [hs2]
      exact this
    rw [e, linesTo_yes s _ hc, h1]
    have hx : s.extract (joinLines ls).length ((joinLines ls).length + l.length) = ⟨l.toArray⟩ := by
      apply bytes_ext
      rw [Lib.extract_data, hs2, List.append_assoc, List.drop_left' rfl, Nat.add_sub_cancel_left, List.take_left' rfl]
    rw [hx]
    simp

theorem linesTo_all (s : ByteArray) (ls : List (List UInt8)) (hf : ∀ l ∈ ls, (10 : UInt8) ∉ l) (hs : s.data.toList = joinLines ls) : (linesTo s s.size).1 = ls.map fun l => ⟨l.toArray⟩ := by
  have h := linesTo_at s ls hf [] (by simp) [] (by simpa using hs)
  have e : s.size = (joinLines ls).length + ([] : List UInt8).length := by
    rw [← hs, List.length_nil, Nat.add_zero]; exact Array.length_toList.symm
  rw [e, h]

theorem preL_five (ws : List Nat) (r : List ByteArray) : preL ws r 5 = segL 0 (ws.getD 0 0) (r.getD 0 ByteArray.empty).data.toList ++ segL 1 (ws.getD 1 0) (r.getD 1 ByteArray.empty).data.toList ++ segL 2 (ws.getD 2 0) (r.getD 2 ByteArray.empty).data.toList ++ segL 3 (ws.getD 3 0) (r.getD 3 ByteArray.empty).data.toList ++ segL 4 (ws.getD 4 0) (r.getD 4 ByteArray.empty).data.toList := by
  rw [preL_succ, preL_succ, preL_succ, preL_succ, preL_succ]
  simp [preL]

theorem table_join (ws : List Nat) : ∀ (rows : List (List ByteArray)), (∀ r ∈ rows, r.length = 5) → tableL ws rows = joinLines (rows.map fun r => preL ws r 5)
  | [], _ => rfl
  | r :: rows, h => by
    have h1 := table_join ws rows (fun x hx => h x (List.mem_cons_of_mem _ hx))
    have e : tableL ws (r :: rows) = (lineB ws r).data.toList ++ tableL ws rows := rfl
    have e2 : (lineB ws r).data.toList = preL ws r 5 ++ [10] := by
      unfold lineB
      rw [ByteArray.data_append, Array.toList_append, h r List.mem_cons_self]
    rw [e, e2, h1]
    simp [joinLines]

/-- A word that may stand in a line: printable, no blank. -/
def Word (x : ByteArray) : Prop := ∀ c ∈ x.data.toList, 33 ≤ c.toNat ∧ c.toNat ≤ 126
theorem Word.no {x : ByteArray} (h : Word x) (n : Nat) (hn : n < 33) : UInt8.ofNat n ∉ x.data.toList := by
  intro hm
  have := (h _ hm).1
  rw [UInt8.toNat_ofNat'] at this
  omega
theorem Word.itoa {n : Int} (h : 0 ≤ n) : Word ⟨(Lib.itoa n).toArray⟩ := by
  intro c hc
  have := itoa_dig n h c hc
  omega

theorem seg_no (i wd : Nat) (x : ByteArray) (h : Word x) : (10 : UInt8) ∉ segL i wd x.data.toList := by
  have h1 : (10 : UInt8) ∉ x.data.toList := h.no 10 (by decide)
  unfold segL
  intro hm
  split at hm
  · rcases List.mem_append.1 hm with hm | hm
    · exact h1 hm
    · exact absurd (List.mem_replicate.1 hm).2 (by decide)
  · rcases List.mem_append.1 hm with hm | hm
    · rcases List.mem_append.1 hm with hm | hm
      · revert hm; decide
      · exact absurd (List.mem_replicate.1 hm).2 (by decide)
    · exact h1 hm
theorem line_no (ws : List Nat) (r : List ByteArray) (h : ∀ j, j < 5 → Word (r.getD j ByteArray.empty)) : (10 : UInt8) ∉ preL ws r 5 := by
  rw [preL_five]
  intro hm
  simp only [List.mem_append] at hm
  rcases hm with (((hm | hm) | hm) | hm) | hm
  · exact seg_no _ _ _ (h 0 (by omega)) hm
  · exact seg_no _ _ _ (h 1 (by omega)) hm
  · exact seg_no _ _ _ (h 2 (by omega)) hm
  · exact seg_no _ _ _ (h 3 (by omega)) hm
  · exact seg_no _ _ _ (h 4 (by omega)) hm

theorem seg_len (i wd : Nat) (x : List UInt8) (h : x.length ≤ wd) : (segL i wd x).length = wd + if i = 0 then 0 else 2 := by
  unfold segL
  split <;> simp <;> omega
theorem line_len (ws : List Nat) (r : List ByteArray) (h : ∀ j, j < 5 → (r.getD j ByteArray.empty).data.toList.length ≤ ws.getD j 0) : (preL ws r 5).length = ws.getD 0 0 + ws.getD 1 0 + ws.getD 2 0 + ws.getD 3 0 + ws.getD 4 0 + 8 := by
  rw [preL_five]
  simp only [List.length_append]
  rw [seg_len 0 _ _ (h 0 (by omega)), seg_len 1 _ _ (h 1 (by omega)), seg_len 2 _ _ (h 2 (by omega)), seg_len 3 _ _ (h 3 (by omega)), seg_len 4 _ _ (h 4 (by omega))]
  simp
  omega

theorem pad_front (k : Nat) (z : List UInt8) : List.replicate k (32 : UInt8) ++ 32 :: z = 32 :: (List.replicate k 32 ++ z) := by
  induction k with
  | zero => rfl
  | succ k ih => rw [List.replicate_succ, List.cons_append, ih]; rfl

/-- A line begins with its name and a blank. -/
theorem line_head (ws : List Nat) (r : List ByteArray) : ∃ z, preL ws r 5 = (r.getD 0 ByteArray.empty).data.toList ++ 32 :: z := by
  refine ⟨List.replicate (ws.getD 0 0 - (r.getD 0 ByteArray.empty).data.toList.length) 32 ++ (32 :: (List.replicate (ws.getD 1 0 - (r.getD 1 ByteArray.empty).data.toList.length) 32 ++ (r.getD 1 ByteArray.empty).data.toList ++ segL 2 (ws.getD 2 0) (r.getD 2 ByteArray.empty).data.toList ++ segL 3 (ws.getD 3 0) (r.getD 3 ByteArray.empty).data.toList ++ segL 4 (ws.getD 4 0) (r.getD 4 ByteArray.empty).data.toList)), ?_⟩
  rw [← pad_front, preL_five]
  unfold segL
  simp
/-- A line ends with a blank and its last word. -/
theorem line_tail (ws : List Nat) (r : List ByteArray) : ∃ z, preL ws r 5 = z ++ 32 :: (r.getD 4 ByteArray.empty).data.toList := by
  refine ⟨segL 0 (ws.getD 0 0) (r.getD 0 ByteArray.empty).data.toList ++ segL 1 (ws.getD 1 0) (r.getD 1 ByteArray.empty).data.toList ++ segL 2 (ws.getD 2 0) (r.getD 2 ByteArray.empty).data.toList ++ segL 3 (ws.getD 3 0) (r.getD 3 ByteArray.empty).data.toList ++ (32 :: List.replicate (ws.getD 4 0 - (r.getD 4 ByteArray.empty).data.toList.length) 32), ?_⟩
  have e : ∀ x : List UInt8, ∀ k, (32 :: List.replicate k 32) ++ 32 :: x = [32, 32] ++ List.replicate k 32 ++ x := by
    intro x k
    have := pad_front k x
    simp only [List.cons_append, List.nil_append]
    rw [this]
  rw [List.append_assoc _ (32 :: _), e, preL_five]
  unfold segL
  simp

/-- The names and costs of which the law speaks. -/
structure RepIn (ns : List ByteArray) (cs : List C4) : Prop where
  len : ns.length = cs.length
  few : cs.length ≤ 9
  name : ∀ x ∈ ns, 1 ≤ x.size ∧ x.size ≤ 20 ∧ Word x
  cost : ∀ c ∈ cs, (0 ≤ c.i ∧ c.i ≤ 65535) ∧ (0 ≤ c.s ∧ c.s ≤ 65535) ∧ (0 ≤ c.m ∧ c.m ≤ 65535) ∧ (0 ≤ c.k ∧ c.k ≤ 65535)
theorem RepIn.reverse {ns : List ByteArray} {cs : List C4} (h : RepIn ns cs) : RepIn ns.reverse cs.reverse :=
  ⟨by simp [h.len], by simpa using h.few, fun x hx => h.name x (by simpa using hx), fun c hc => h.cost c (by simpa using hc)⟩

/-- The sum, without any wrap. -/
def sumI (f : C4 → Int) (cs : List C4) : Int := (cs.map f).sum
theorem sum_part (f : C4 → Int) : ∀ (cs : List C4), (∀ c ∈ cs, 0 ≤ f c ∧ f c ≤ 65535) → 0 ≤ sumI f cs ∧ sumI f cs ≤ 65535 * cs.length
  | [], _ => by simp [sumI]
  | c :: cs, h => by
    have h1 := sum_part f cs (fun x hx => h x (List.mem_cons_of_mem _ hx))
    have h2 := h c List.mem_cons_self
    have e : sumI f (c :: cs) = f c + sumI f cs := by simp [sumI]
    rw [e, List.length_cons]
    omega
theorem sumI_reverse (f : C4 → Int) (cs : List C4) : sumI f cs.reverse = sumI f cs := by
  unfold sumI
  rw [List.map_reverse, List.sum_reverse]

theorem wrap_small (x : Int) (h0 : 0 ≤ x) (h1 : x ≤ 10000000) : wrap64 x = x := by unfold wrap64; omega
theorem fold_plain : ∀ (cs : List C4) (a : C4) (B : Nat), (∀ c ∈ cs, (0 ≤ c.i ∧ c.i ≤ 65535) ∧ (0 ≤ c.s ∧ c.s ≤ 65535) ∧ (0 ≤ c.m ∧ c.m ≤ 65535) ∧ (0 ≤ c.k ∧ c.k ≤ 65535)) →
    (0 ≤ a.i ∧ a.i ≤ 65535 * B) → (0 ≤ a.s ∧ a.s ≤ 65535 * B) → (0 ≤ a.m ∧ a.m ≤ 65535 * B) → (0 ≤ a.k ∧ a.k ≤ 65535 * B) → B + cs.length ≤ 100 →
    cs.foldl C4.add a = ⟨a.i + sumI C4.i cs, a.s + sumI C4.s cs, a.m + sumI C4.m cs, a.k + sumI C4.k cs⟩
  | [], a, B, _, _, _, _, _, _ => by simp [sumI]
  | c :: cs, a, B, h, h1, h2, h3, h4, hB => by
    obtain ⟨c1, c2, c3, c4⟩ := h c List.mem_cons_self
    rw [List.length_cons] at hB
    have e : a.add c = ⟨a.i + c.i, a.s + c.s, a.m + c.m, a.k + c.k⟩ := by
      unfold C4.add
      rw [wrap_small _ (by omega) (by omega), wrap_small _ (by omega) (by omega), wrap_small _ (by omega) (by omega), wrap_small _ (by omega) (by omega)]
    rw [List.foldl_cons, e, fold_plain cs _ (B + 1) (fun x hx => h x (List.mem_cons_of_mem _ hx)) (by constructor <;> simp only <;> omega) (by constructor <;> simp only <;> omega) (by constructor <;> simp only <;> omega) (by constructor <;> simp only <;> omega) (by omega)]
    simp only [C4.mk.injEq, sumI, List.map_cons, List.sum_cons]
    omega
theorem sumC_plain {ns : List ByteArray} {cs : List C4} (h : RepIn ns cs) : sumC cs = ⟨sumI C4.i cs, sumI C4.s cs, sumI C4.m cs, sumI C4.k cs⟩ := by
  unfold sumC
  rw [fold_plain cs C4.zero 0 h.cost (by simp [C4.zero]) (by simp [C4.zero]) (by simp [C4.zero]) (by simp [C4.zero]) (by have := h.few; omega)]
  simp [C4.zero]
theorem sumC_reverse {ns : List ByteArray} {cs : List C4} (h : RepIn ns cs) : sumC cs.reverse = sumC cs := by
  rw [sumC_plain h, sumC_plain h.reverse, sumI_reverse, sumI_reverse, sumI_reverse, sumI_reverse]
theorem sumC_bounds {ns : List ByteArray} {cs : List C4} (h : RepIn ns cs) : (0 ≤ (sumC cs).i ∧ (sumC cs).i ≤ 10000000) ∧ (0 ≤ (sumC cs).s ∧ (sumC cs).s ≤ 10000000) ∧ (0 ≤ (sumC cs).m ∧ (sumC cs).m ≤ 10000000) ∧ (0 ≤ (sumC cs).k ∧ (sumC cs).k ≤ 10000000) := by
  rw [sumC_plain h]
  have hf := h.few
  have h1 := sum_part C4.i cs (fun c hc => (h.cost c hc).1)
  have h2 := sum_part C4.s cs (fun c hc => (h.cost c hc).2.1)
  have h3 := sum_part C4.m cs (fun c hc => (h.cost c hc).2.2.1)
  have h4 := sum_part C4.k cs (fun c hc => (h.cost c hc).2.2.2)
  simp only
  omega

/-- The i-th line's words. -/
def rowAt (ns : List ByteArray) (cs : List C4) (i : Nat) : List ByteArray :=
  if i = 0 then headB else if i ≤ cs.length then rowB (ns.getD (i - 1) ByteArray.empty) (cs.getD (i - 1) C4.zero) else rowB totalB (sumC cs)
theorem allRows_at (ns : List ByteArray) (cs : List C4) (i : Nat) (hi : i < cs.length + 2) : (allRows ns cs)[i]? = some (rowAt ns cs i) := by
  unfold allRows rowsB rowAt
  cases i with
  | zero => rfl
  | succ i =>
    rw [if_neg (by omega)]
    by_cases h : i < cs.length
    · rw [if_pos (by omega), List.getElem?_append_left (by simp; omega)]
      simp [h]
    · rw [if_neg (by omega), List.getElem?_append_right (by simp; omega)]
      have : i = cs.length := by omega
      subst this
      simp
theorem mem_allRows {ns : List ByteArray} {cs : List C4} {r : List ByteArray} : r ∈ allRows ns cs ↔ ∃ i, i < cs.length + 2 ∧ r = rowAt ns cs i := by
  constructor
  · intro h
    obtain ⟨i, hi⟩ := List.getElem?_of_mem h
    have hlt := (List.getElem?_eq_some_iff.1 hi).1
    rw [allRows_length] at hlt
    exact ⟨i, hlt, by rw [allRows_at ns cs i hlt] at hi; exact (Option.some.inj hi).symm⟩
  · rintro ⟨i, hi, rfl⟩
    exact List.mem_of_getElem? (allRows_at ns cs i hi)

theorem getD_rev {α : Type} (l : List α) (d : α) (i : Nat) (hi : i < l.length) : l.reverse.getD i d = l.getD (l.length - 1 - i) d := by
  rw [List.getD_eq_getElem?_getD, List.getD_eq_getElem?_getD, List.getElem?_reverse hi]

/-- With the costs in the other order, the lines are in the other order. -/
theorem rowAt_reverse {ns : List ByteArray} {cs : List C4} (h : RepIn ns cs) (i : Nat) (h1 : 1 ≤ i) (h2 : i ≤ cs.length) : rowAt ns.reverse cs.reverse (cs.length + 1 - i) = rowAt ns cs i := by
  unfold rowAt
  rw [List.length_reverse, if_neg (by omega), if_pos (by omega), if_neg (by omega), if_pos h2]
  rw [getD_rev ns _ _ (by rw [h.len]; omega), getD_rev cs _ _ (by omega), h.len]
  have e : cs.length - 1 - (cs.length + 1 - i - 1) = i - 1 := by omega
  rw [e]
theorem rowAt_head (ns : List ByteArray) (cs : List C4) : rowAt ns cs 0 = headB := rfl
theorem rowAt_last {ns : List ByteArray} {cs : List C4} (h : RepIn ns cs) : rowAt ns.reverse cs.reverse (cs.length + 1) = rowAt ns cs (cs.length + 1) := by
  unfold rowAt
  rw [List.length_reverse, if_neg (by omega), if_neg (by omega), if_neg (by omega), if_neg (by omega), sumC_reverse h]

theorem widths_le (i : Nat) (hi : i < 5) (a b : List (List ByteArray)) (h : ∀ r ∈ a, r ∈ b) : (widths a).getD i 0 ≤ (widths b).getD i 0 := by
  refine fold_le i hi _ a [0, 0, 0, 0, 0] ?_ (fun r hr => (fold_ge i hi b [0, 0, 0, 0, 0]).2 r (h r hr))
  have : i = 0 ∨ i = 1 ∨ i = 2 ∨ i = 3 ∨ i = 4 := by omega
  rcases this with rfl | rfl | rfl | rfl | rfl <;> simp
theorem widths_eq (a b : List (List ByteArray)) (h : ∀ r, r ∈ a ↔ r ∈ b) : widths a = widths b := by
  apply List.ext_getElem?
  intro i
  by_cases hi : i < 5
  · have e : (widths a).getD i 0 = (widths b).getD i 0 := Nat.le_antisymm (widths_le i hi a b (fun r => (h r).1)) (widths_le i hi b a (fun r => (h r).2))
    rw [List.getD_eq_getElem?_getD, List.getD_eq_getElem?_getD, List.getElem?_eq_getElem (by rw [widths_length]; exact hi), List.getElem?_eq_getElem (by rw [widths_length]; exact hi)] at e
    rw [List.getElem?_eq_getElem (by rw [widths_length]; exact hi), List.getElem?_eq_getElem (by rw [widths_length]; exact hi)]
    exact congrArg some e
  · rw [List.getElem?_eq_none (by rw [widths_length]; omega), List.getElem?_eq_none (by rw [widths_length]; omega)]
theorem widths_reverse {ns : List ByteArray} {cs : List C4} (h : RepIn ns cs) : widths (allRows ns.reverse cs.reverse) = widths (allRows ns cs) := by
  have go : ∀ {ns : List ByteArray} {cs : List C4}, RepIn ns cs → ∀ r, r ∈ allRows ns.reverse cs.reverse → r ∈ allRows ns cs := by
    intro ns cs h r hr
    obtain ⟨i, hi, rfl⟩ := mem_allRows.1 hr
    rw [List.length_reverse] at hi
    by_cases h0 : i = 0
    · subst h0
      exact mem_allRows.2 ⟨0, by omega, rfl⟩
    · by_cases h1 : i ≤ cs.length
      · refine mem_allRows.2 ⟨cs.length + 1 - i, by omega, ?_⟩
        have := rowAt_reverse h (cs.length + 1 - i) (by omega) (by omega)
        rw [show cs.length + 1 - (cs.length + 1 - i) = i by omega] at this
        exact this
      · have : i = cs.length + 1 := by omega
        subst this
        exact mem_allRows.2 ⟨cs.length + 1, by omega, rowAt_last h⟩
  refine widths_eq _ _ (fun r => ⟨go h r, fun hr => ?_⟩)
  have := go h.reverse r
  rw [List.reverse_reverse, List.reverse_reverse] at this
  exact this hr

theorem idx_no (s : ByteArray) (h : Word s) : ∀ (f pos : Nat), Lib.idxFuncFrom oddR true s f pos = -1
  | 0, _ => rfl
  | f + 1, pos => by
    unfold Lib.idxFuncFrom
    split
    · rename_i hlt
      have hc := h (s[pos]'hlt) (by rw [ByteArray.getElem_eq_getElem_data]; exact Array.getElem_mem_toList _)
      rw [decode_ascii s pos hlt (by omega)]
      have ho : oddR (s[pos]'hlt).toNat = false := by unfold oddR; simp; omega
      simp only [ho]
      rw [if_neg (by decide)]
      exact idx_no s h f _
    · rfl
theorem named_ok {s : ByteArray} (h1 : 1 ≤ s.size) (h2 : s.size ≤ 20) (h : Word s) : namedB s = true := by
  unfold namedB Lib.idxFunc
  rw [idx_no s h]
  simp
  omega

theorem getD_mem {α : Type} {l : List α} {d : α} {i : Nat} (h : i < l.length) : l.getD i d ∈ l := by
  rw [List.getD_eq_getElem?_getD, List.getElem?_eq_getElem h]
  exact List.getElem_mem h

/-- Each word of each line: printable, not long. -/
theorem row_word {ns : List ByteArray} {cs : List C4} (h : RepIn ns cs) (i : Nat) (_hi : i < cs.length + 2) (j : Nat) (hj : j < 5) : Word ((rowAt ns cs i).getD j ByteArray.empty) ∧ ((rowAt ns cs i).getD j ByteArray.empty).size ≤ 64 := by
  have hrow : ∀ (nm : ByteArray) (c : C4), Word nm → nm.size ≤ 64 → (0 ≤ c.i ∧ c.i ≤ 10000000) ∧ (0 ≤ c.s ∧ c.s ≤ 10000000) ∧ (0 ≤ c.m ∧ c.m ≤ 10000000) ∧ (0 ≤ c.k ∧ c.k ≤ 10000000) → Word ((rowB nm c).getD j ByteArray.empty) ∧ ((rowB nm c).getD j ByteArray.empty).size ≤ 64 := by
    intro nm c hw hz hc
    have hz2 := row_words nm c hz ⟨by omega, by omega, by omega, by omega⟩ j hj
    refine ⟨?_, hz2⟩
    rcases (by omega : j = 0 ∨ j = 1 ∨ j = 2 ∨ j = 3 ∨ j = 4) with rfl | rfl | rfl | rfl | rfl
    · exact hw
    · exact Word.itoa hc.1.1
    · exact Word.itoa hc.2.1.1
    · exact Word.itoa hc.2.2.1.1
    · exact Word.itoa hc.2.2.2.1
  unfold rowAt
  split
  · rcases (by omega : j = 0 ∨ j = 1 ∨ j = 2 ∨ j = 3 ∨ j = 4) with rfl | rfl | rfl | rfl | rfl
    all_goals exact ⟨by unfold Word; decide, by decide⟩
  · split
    · have hn := h.name (ns.getD (i - 1) ByteArray.empty) (getD_mem (by rw [h.len]; omega))
      have hc := h.cost (cs.getD (i - 1) C4.zero) (getD_mem (by omega))
      exact hrow _ _ hn.2.2 (by omega) (by omega)
    · exact hrow _ _ (by unfold Word; decide) (by decide) (sumC_bounds h)

/-- The i-th line. -/
def lineAt (ns : List ByteArray) (cs : List C4) (i : Nat) : ByteArray := ⟨(preL (widths (allRows ns cs)) (rowAt ns cs i) 5).toArray⟩

theorem row_fits {ns : List ByteArray} {cs : List C4} (h : RepIn ns cs) (r : List ByteArray) (hr : r ∈ allRows ns cs) (j : Nat) (hj : j < 5) : (r.getD j ByteArray.empty).data.toList.length ≤ (widths (allRows ns cs)).getD j 0 ∧ (widths (allRows ns cs)).getD j 0 ≤ 64 := by
  refine ⟨?_, ?_⟩
  · rw [Array.length_toList]
    exact (fold_ge j hj (allRows ns cs) [0, 0, 0, 0, 0]).2 r hr
  · refine fold_le j hj 64 _ _ ?_ (fun x hx => ?_)
    · rcases (by omega : j = 0 ∨ j = 1 ∨ j = 2 ∨ j = 3 ∨ j = 4) with rfl | rfl | rfl | rfl | rfl <;> simp
    · obtain ⟨i, hi, rfl⟩ := mem_allRows.1 hx
      exact (row_word h i hi j hj).2

theorem report_ok {ns : List ByteArray} {cs : List C4} (h : RepIn ns cs) : reportM ns cs = (⟨(tableL (widths (allRows ns cs)) (allRows ns cs)).toArray⟩, 0) := by
  have hf := h.few
  have hg : (List.range cs.length).all (fun i => goodB (ns.getD i ByteArray.empty) (cs.getD i C4.zero)) = true := by
    rw [List.all_eq_true]
    intro i hi
    have hi := List.mem_range.1 hi
    have hn := h.name (ns.getD i ByteArray.empty) (getD_mem (by rw [h.len]; omega))
    have hc := h.cost (cs.getD i C4.zero) (getD_mem hi)
    unfold goodB
    rw [named_ok hn.1 hn.2.1 hn.2.2, Bool.true_and]
    unfold plainB
    rw [decide_eq_true_iff]
    omega
  have hs := sumC_bounds h
  have hp : plainB (sumC cs).i (sumC cs).s (sumC cs).m (sumC cs).k = true := by
    unfold plainB
    rw [decide_eq_true_iff]
    omega
  unfold reportM
  rw [if_neg (by rw [h.len]; omega), if_neg (by rw [hg]; decide), if_neg (by rw [hp]; decide)]

theorem report_list {ns : List ByteArray} {cs : List C4} (h : RepIn ns cs) : (reportM ns cs).1.data.toList = joinLines ((allRows ns cs).map fun r => preL (widths (allRows ns cs)) r 5) := by
  rw [report_ok h]
  exact table_join _ _ (allRows_five ns cs)
theorem report_size {ns : List ByteArray} {cs : List C4} (h : RepIn ns cs) : (reportM ns cs).1.size ≤ 100000 := by
  have h1 := tableL_len (widths (allRows ns cs)) 64 (allRows ns cs) (allRows_five ns cs) (fun r hr i hi => ⟨(row_fits h r hr i hi).2, (row_fits h r hr i hi).1⟩)
  rw [allRows_length] at h1
  have hf := h.few
  have e : (reportM ns cs).1.size = (tableL (widths (allRows ns cs)) (allRows ns cs)).length := by
    rw [report_ok h]
    rfl
  rw [e]
  have : (cs.length + 1 + 1) * (5 * (64 + 2) + 1) ≤ 11 * 331 := Nat.mul_le_mul (by omega) (by omega)
  omega
/-- The lines of a report. -/
theorem report_lines {ns : List ByteArray} {cs : List C4} (h : RepIn ns cs) : (linesTo (reportM ns cs).1 (reportM ns cs).1.size).1.length = cs.length + 2 ∧ ∀ i, i < cs.length + 2 → (linesTo (reportM ns cs).1 (reportM ns cs).1.size).1[i]? = some (lineAt ns cs i) := by
  have e := linesTo_all (reportM ns cs).1 ((allRows ns cs).map fun r => preL (widths (allRows ns cs)) r 5) (fun l hl => by
    obtain ⟨r, hr, rfl⟩ := List.mem_map.1 hl
    obtain ⟨i, hi, rfl⟩ := mem_allRows.1 hr
    exact line_no _ _ (fun j hj => (row_word h i hi j hj).1)) (report_list h)
  rw [e]
  refine ⟨by simp [allRows_length], fun i hi => ?_⟩
  rw [List.getElem?_map, List.getElem?_map, allRows_at ns cs i hi]
  rfl

theorem lineAt_reverse {ns : List ByteArray} {cs : List C4} (h : RepIn ns cs) (i : Nat) (h1 : 1 ≤ i) (h2 : i ≤ cs.length) : lineAt ns.reverse cs.reverse (cs.length + 1 - i) = lineAt ns cs i := by
  unfold lineAt
  rw [widths_reverse h, rowAt_reverse h i h1 h2]
theorem lineAt_head {ns : List ByteArray} {cs : List C4} (h : RepIn ns cs) : lineAt ns.reverse cs.reverse 0 = lineAt ns cs 0 := by
  unfold lineAt
  rw [widths_reverse h]
  rfl
theorem lineAt_last {ns : List ByteArray} {cs : List C4} (h : RepIn ns cs) : lineAt ns.reverse cs.reverse (cs.length + 1) = lineAt ns cs (cs.length + 1) := by
  unfold lineAt
  rw [widths_reverse h, rowAt_last h]
theorem lineAt_size {ns : List ByteArray} {cs : List C4} (h : RepIn ns cs) (i : Nat) (hi : i < cs.length + 2) : (lineAt ns cs i).size = (lineAt ns cs 0).size := by
  have e : ∀ i, (lineAt ns cs i).size = (preL (widths (allRows ns cs)) (rowAt ns cs i) 5).length := fun i => rfl
  rw [e, e, line_len _ _ (fun j hj => (row_fits h _ (mem_allRows.2 ⟨i, hi, rfl⟩) j hj).1), line_len _ _ (fun j hj => (row_fits h _ (mem_allRows.2 ⟨0, by omega, rfl⟩) j hj).1)]
theorem lineAt_size_le {ns : List ByteArray} {cs : List C4} (h : RepIn ns cs) (i : Nat) (hi : i < cs.length + 2) : (lineAt ns cs i).size ≤ 400 := by
  have e : (lineAt ns cs i).size = (preL (widths (allRows ns cs)) (rowAt ns cs i) 5).length := rfl
  have hr : rowAt ns cs i ∈ allRows ns cs := mem_allRows.2 ⟨i, hi, rfl⟩
  rw [e, line_len _ _ (fun j hj => (row_fits h _ hr j hj).1)]
  have w0 := (row_fits h _ hr 0 (by omega)).2
  have w1 := (row_fits h _ hr 1 (by omega)).2
  have w2 := (row_fits h _ hr 2 (by omega)).2
  have w3 := (row_fits h _ hr 3 (by omega)).2
  have w4 := (row_fits h _ hr 4 (by omega)).2
  omega
theorem lineAt_name {ns : List ByteArray} {cs : List C4} (i : Nat) (h1 : 1 ≤ i) (h2 : i ≤ cs.length) : (lineAt ns cs i).extract 0 ((ns.getD (i - 1) ByteArray.empty).size + 1) = ns.getD (i - 1) ByteArray.empty ++ (⟨#[32]⟩ : ByteArray) ∧ (ns.getD (i - 1) ByteArray.empty).size < (lineAt ns cs i).size := by
  obtain ⟨z, hz⟩ := line_head (widths (allRows ns cs)) (rowAt ns cs i)
  have hr : (rowAt ns cs i).getD 0 ByteArray.empty = ns.getD (i - 1) ByteArray.empty := by
    unfold rowAt
    rw [if_neg (by omega), if_pos h2]
    rfl
  rw [hr] at hz
  have hl : (lineAt ns cs i).data.toList = (ns.getD (i - 1) ByteArray.empty).data.toList ++ 32 :: z := hz
  have hsz : (ns.getD (i - 1) ByteArray.empty).data.toList.length = (ns.getD (i - 1) ByteArray.empty).size := Array.length_toList
  refine ⟨?_, ?_⟩
  · apply bytes_ext
    rw [Lib.extract_data, hl, ByteArray.data_append, Array.toList_append, List.drop_zero, Nat.sub_zero]
    rw [show (ns.getD (i - 1) ByteArray.empty).data.toList ++ 32 :: z = ((ns.getD (i - 1) ByteArray.empty).data.toList ++ [32]) ++ z by simp]
    rw [List.take_left' (by simp)]
  · have e : (lineAt ns cs i).size = (lineAt ns cs i).data.toList.length := Array.length_toList.symm
    rw [e, hl, List.length_append, hsz, List.length_cons]
    omega
/-- The last number of the i-th line. -/
def lastK (cs : List C4) (i : Nat) : Int := if i ≤ cs.length then (cs.getD (i - 1) C4.zero).k else (sumC cs).k
theorem lineAt_tail {ns : List ByteArray} {cs : List C4} (h : RepIn ns cs) (i : Nat) (h1 : 1 ≤ i) (_h2 : i < cs.length + 2) : (0 ≤ lastK cs i ∧ lastK cs i ≤ 10000000) ∧ ∃ p, 0 < p ∧ p ≤ (lineAt ns cs i).size ∧ (∀ hp : p - 1 < (lineAt ns cs i).size, (lineAt ns cs i)[p - 1] = 32) ∧
    (∀ (j : Nat) (hj : j < (lineAt ns cs i).size), p ≤ j → (lineAt ns cs i)[j] ≠ 32) ∧ (lineAt ns cs i).extract p (lineAt ns cs i).size = ⟨(Lib.itoa (lastK cs i)).toArray⟩ := by
  have hr : (rowAt ns cs i).getD 4 ByteArray.empty = ⟨(Lib.itoa (lastK cs i)).toArray⟩ := by
    unfold rowAt lastK
    rw [if_neg (by omega)]
    split <;> rfl
  have hb : 0 ≤ lastK cs i ∧ lastK cs i ≤ 10000000 := by
    unfold lastK
    split
    · have := h.cost (cs.getD (i - 1) C4.zero) (getD_mem (by omega)); omega
    · have := sumC_bounds h; omega
  refine ⟨hb, ?_⟩
  obtain ⟨z, hz⟩ := line_tail (widths (allRows ns cs)) (rowAt ns cs i)
  rw [hr] at hz
  have hl : (lineAt ns cs i).data.toList = z ++ 32 :: Lib.itoa (lastK cs i) := hz
  have e : (lineAt ns cs i).size = (lineAt ns cs i).data.toList.length := Array.length_toList.symm
  have hsz : (lineAt ns cs i).size = z.length + 1 + (Lib.itoa (lastK cs i)).length := by
    rw [e, hl, List.length_append, List.length_cons]; omega
  have hget : ∀ (j : Nat) (hj : j < (lineAt ns cs i).size), (lineAt ns cs i)[j] = (z ++ 32 :: Lib.itoa (lastK cs i)).getD j 0 := by
    intro j hj
    rw [← hl]
    exact Lib.getD_at _ j hj
  refine ⟨z.length + 1, by omega, by omega, fun hp => ?_, fun j hj hpj => ?_, ?_⟩
  · rw [hget]
    show (z ++ 32 :: Lib.itoa (lastK cs i)).getD z.length 0 = 32
    exact getD_mid _ _ _
  · rw [hget]
    have hm : (z ++ 32 :: Lib.itoa (lastK cs i)).getD j 0 ∈ Lib.itoa (lastK cs i) := by
      rw [show z ++ 32 :: Lib.itoa (lastK cs i) = (z ++ [32]) ++ Lib.itoa (lastK cs i) by simp, List.getD_eq_getElem?_getD, List.getElem?_append_right (by simp; omega), List.getElem?_eq_getElem (by simp; omega)]
      exact List.getElem_mem _
    intro hc
    rw [hc] at hm
    have := itoa_dig _ hb.1 _ hm
    revert this
    decide
  · apply bytes_ext
    rw [Lib.extract_data, hl, hsz]
    rw [show z ++ 32 :: Lib.itoa (lastK cs i) = (z ++ [32]) ++ Lib.itoa (lastK cs i) by simp, List.drop_left' (by simp)]
    rw [List.take_of_length_le (by omega)]

/-- What the law parses. -/
def preK : ByteArray := ⟨#[105, 115, 115, 117, 101, 115, 32, 48, 44, 32, 115, 99, 97, 108, 97, 114, 115, 32, 48, 44, 32, 109, 111, 118, 101, 115, 32, 48, 44, 32, 109, 97, 115, 107, 101, 100, 32]⟩
theorem parse_last (k : Int) (h0 : 0 ≤ k) (h1 : k ≤ 10000000) : parseM (preK ++ ⟨(Lib.itoa k).toArray⟩) = (⟨0, 0, 0, k⟩, 0) := by
  have e : textB ⟨0, 0, 0, k⟩ = preK ++ ⟨(Lib.itoa k).toArray⟩ := by
    apply bytes_ext
    rw [text_list, ByteArray.data_append, Array.toList_append]
    simp only [item_list, wlist0, wlist1, wlist2, wlist3]
    have z : Lib.itoa 0 = [48] := by kernel_rfl
    rw [z]
    rfl
  rw [← e]
  exact parse_text ⟨0, 0, 0, k⟩ (by unfold plainB; rw [decide_eq_true_iff]; simp only; omega)
end Go.Proofs.YtdalfkdfpeffdaaDoor
