/- Proved here: a region that draws its order, by one condition that each operation keeps. -/
import Derived.Orders
import Derived.Below
import Derived.WalkKit
namespace Go.Proofs.YtdalfkdfpeffdaaDoor
open Go.RowKit

section
variable {P : Program} {ops : Array Oper} {Q : Exit → Act → World → Prop}

/-- What may come up: it has not yet, and all that it waits for has. -/
theorem ready_of {L : Array Bool} {i : Nat} (h : i ∈ Region.ready .any ops L) :
    ∃ o, ops[i]? = some o ∧ L.getD i true = false ∧ ∀ e ∈ o.after, Region.binds .any e = true → L.getD e.on false = true := by
  unfold Region.ready at h
  obtain ⟨-, h2⟩ := List.mem_filter.1 h
  cases ho : ops[i]? with
  | none => simp [ho] at h2
  | some o =>
    simp only [ho, Option.map_some, Option.getD_some, Bool.and_eq_true, Bool.not_eq_true', Array.all_eq_true_iff_forall_mem, Bool.or_eq_true] at h2
    refine ⟨o, rfl, h2.1, fun e he hb => ?_⟩
    rcases h2.2 e he with h | h
    · rw [hb] at h; cases h
    · exact h

theorem ready_nil {L : Array Bool} (h : Region.ready .any ops L = []) (hs : L.size = ops.size) (hback : ∀ i o, ops[i]? = some o → ∀ e ∈ o.after, Region.binds .any e = true → e.on < i) :
    ∀ i, i < ops.size → L.getD i false = true := by
  intro i
  induction i using Nat.strongRecOn with
  | _ i ih =>
    intro hi
    cases hL : L.getD i false with
    | true => rfl
    | false =>
      exfalso
      have hm : i ∈ Region.ready .any ops L := by
        unfold Region.ready
        refine List.mem_filter.2 ⟨List.mem_range.2 hi, ?_⟩
        have ho : ops[i]? = some ops[i] := Array.getElem?_eq_getElem hi
        have hT : L.getD i true = false := by
          rw [Array.getD, dif_pos (by omega)] at hL ⊢
          exact hL
        simp only [ho, Option.map_some, Option.getD_some, hT, Bool.not_false, Bool.true_and, Array.all_eq_true_iff_forall_mem, Bool.or_eq_true]
        intro e he
        cases hb : Region.binds .any e with
        | false => exact .inl rfl
        | true => exact .inr (ih e.on (hback i _ ho e he hb) (by have := hback i _ ho e he hb; omega))
      rw [h] at hm
      cases hm

theorem wpAny_inv (I : (Nat → Bool) → Act → World → Prop)
    (hstep : ∀ (D : Nat → Bool) (a : Act) (w : World) (i : Nat) (o : Oper), ops[i]? = some o → D i = false → (∀ e ∈ o.after, Region.binds .any e = true → D e.on = true) → I D a w →
      ∀ K : Act → World → Prop, (∀ a' w', I (fun j => j == i || D j) a' w' → K a' w') → wpOp P ops Q i K a w)
    (hback : ∀ i o, ops[i]? = some o → ∀ e ∈ o.after, Region.binds .any e = true → e.on < i)
    (hend : ∀ (D : Nat → Bool) (a : Act) (w : World), (∀ i, i < ops.size → D i = true) → I D a w → Q .normal a w) :
    ∀ (fuel : Nat) (L : Array Bool) (a : Act) (w : World), L.size = ops.size → L.toList.count false ≤ fuel → I (fun j => L.getD j false) a w → wpAny P .any ops Q fuel L a w := by
  intro fuel
  induction fuel with
  | zero =>
    intro L a w hs hc hI
    have hr : Region.ready .any ops L = [] := by
      cases hr : Region.ready .any ops L with
      | nil => rfl
      | cons i rest =>
        exfalso
        obtain ⟨o, -, h2, -⟩ := ready_of (i := i) (ops := ops) (L := L) (by rw [hr]; simp)
        have hm : false ∈ L.toList := by
          rw [Array.getD] at h2
          split at h2
          · rename_i hlt
            have : L[i] ∈ L := Array.getElem_mem hlt
            rw [show L[i] = false from h2] at this
            exact this.val
          · cases h2
        have := List.count_pos_iff.2 hm
        omega
    exact ⟨hr, hend _ a w (ready_nil hr hs hback) hI⟩
  | succ fuel ih =>
    intro L a w hs hc hI
    refine ⟨fun hr => hend _ a w (ready_nil hr hs hback) hI, fun i hi => ?_⟩
    obtain ⟨o, ho, h2, h3⟩ := ready_of hi
    have hlt : i < L.size := by
      rw [Array.getD] at h2
      split at h2
      · assumption
      · cases h2
    have hLi : L[i] = false := by rw [Array.getD, dif_pos hlt] at h2; exact h2
    refine hstep _ a w i o ho (by show L.getD i false = false; rw [Array.getD, dif_pos hlt]; exact hLi) h3 hI _ (fun a' w' hI' => ?_)
    refine ih (L.setIfInBounds i true) a' w' (by simpa using hs) ?_ ?_
    · have e1 : (L.setIfInBounds i true).toList = L.toList.set i true := by simp
      rw [e1, List.count_set (by simpa using hlt)]
      have e2 : L.toList[i]'(by simpa using hlt) = false := by simpa using hLi
      rw [e2, show (false == false) = true from rfl, show (true == false) = false from rfl, if_pos rfl, if_neg (by decide)]
      omega
    · have e3 : (fun j => (L.setIfInBounds i true).getD j false) = fun j => j == i || L.getD j false := by
        funext j
        by_cases hj : j = i
        · subst hj
          simp [Array.getD, hlt]
        · have : (j == i) = false := by simpa using hj
          rw [this, Bool.false_or]
          by_cases hjl : j < L.size
          · simp [Array.getD, hjl, Array.getElem_setIfInBounds, Ne.symm hj]
          · simp [Array.getD, hjl]
      rw [e3]
      exact hI'

/-- A REGION THAT DRAWS ITS ORDER, BY ONE CONDITION THAT EACH OPERATION KEEPS. -/
theorem wp_region_inv {id : Nat} {a : Act} {w : World} (I : (Nat → Bool) → Act → World → Prop) (hm : P.follows .mixedOrders = true)
    (h0 : I (fun _ => false) a w.drew)
    (hstep : ∀ (D : Nat → Bool) (a : Act) (w : World) (i : Nat) (o : Oper), ops[i]? = some o → D i = false → (∀ e ∈ o.after, Region.binds .any e = true → D e.on = true) → I D a w →
      ∀ K : Act → World → Prop, (∀ a' w', I (fun j => j == i || D j) a' w' → K a' w') → wpOp P ops Q i K a w)
    (hback : ∀ i o, ops[i]? = some o → ∀ e ∈ o.after, Region.binds .any e = true → e.on < i)
    (hend : ∀ (D : Nat → Bool) (a : Act) (w : World), (∀ i, i < ops.size → D i = true) → I D a w → Q .normal a w) : (Code.region id ops true).wp P Q a w := by
  refine wp_region_any hm (wpAny_inv I hstep hback hend ops.size _ a _ (by simp) ?_ ?_)
  · simp
  · have e : (fun j => (Array.replicate ops.size false).getD j false) = fun _ => false := by
      funext j
      by_cases hj : j < ops.size <;> simp [Array.getD, hj]
    rw [e]
    exact h0

/-- Each operation waits for earlier ones alone: seen by looking. -/
def backB (ops : Array Oper) : Bool := (List.range ops.size).all fun i => match ops[i]? with | none => true | some o => o.after.toList.all fun e => !Region.binds .any e || decide (e.on < i)
theorem back_of (h : backB ops = true) : ∀ i o, ops[i]? = some o → ∀ e ∈ o.after, Region.binds .any e = true → e.on < i := by
  intro i o ho e he hb
  have hi : i < ops.size := by
    refine Decidable.byContradiction fun hn => ?_
    rw [Array.getElem?_eq_none (by omega)] at ho
    cases ho
  have h1 := List.all_eq_true.1 h i (List.mem_range.2 hi)
  simp only [ho] at h1
  have h2 := List.all_eq_true.1 h1 e (Array.mem_toList_iff.2 he)
  rw [hb] at h2
  simpa using h2

theorem wpOp_plain {i : Nat} {o : Oper} {K : Act → World → Prop} {a : Act} {w : World} (hi : ops[i]? = some o) (hg : o.guard = none) (h : o.wp P a w K Q) : wpOp P ops Q i K a w := by
  unfold wpOp
  rw [hi]
  have : Region.wanted o (yielded ops a.tmps) = true := by unfold Region.wanted; rw [hg]
  simp only [this, if_true]
  exact .inl h
end
end Go.Proofs.YtdalfkdfpeffdaaDoor
