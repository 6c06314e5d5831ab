/- Proved here: a region that draws its order may be walked once in the text's order, where each operation keeps a condition and gives the same in every world that keeps it. -/
import Derived.Test.YtdalfkdfpeffdaaDoorRI
import Derived.Still
import Derived.Deep.Light
namespace Go.Proofs.YtdalfkdfpeffdaaDoor
open Go.RowKit

section
variable {P : Program} {ops : Array Oper} {J : World → Prop}

/-- An operation gives v in every world that keeps J, and keeps J. -/
def givesUpon (P : Program) (J : World → Prop) (v : Value) : Result Next → Prop
  | .ok (.value x) w' => x = v ∧ J w'
  | .ok .skip w' => v = undef ∧ J w'
  | .ok (.enter f args) w' => Calls P f args w' fun e w'' => e = .returned v ∧ J w''
  | _ => False
def gives (P : Program) (J : World → Prop) (o : Oper) (a : Act) (v : Value) : Prop := ∀ w, J w → givesUpon P J v ((execOp a.eval o).run P w)

theorem gives_wp {o : Oper} {a : Act} {v : Value} {w : World} {next : Act → World → Prop} {Q : Exit → Act → World → Prop} (h : gives P J o a v) (hw : J w) (hn : ∀ w', J w' → next (a.put o.dst v) w') : o.wp P a w next Q := by
  have h1 := h w hw
  unfold Oper.wp
  generalize (execOp a.eval o).run P w = r at *
  cases r with
  | ok n w' =>
    cases n <;> simp only [givesUpon] at h1 <;> simp only [Oper.upon]
    case value x => obtain ⟨rfl, h2⟩ := h1; exact hn _ h2
    case skip => obtain ⟨rfl, h2⟩ := h1; exact hn _ h2
    case enter f args => exact h1.mono fun e w'' ⟨he, hj⟩ => by subst he; exact hn _ hj
  | halt x w' => simp only [givesUpon] at h1

theorem gives_same {o : Oper} {a b : Act} {v : Value} (h : gives P J o a v) (he : execOp b.eval o = execOp a.eval o) : gives P J o b v := by
  unfold gives; rw [he]; exact h

/-- The walk in the text's order, where every operation keeps J and gives the same in every world that does. -/
def wpKeep (P : Program) (J : World → Prop) (ops : Array Oper) (Q : Act → Prop) : List Oper → Act → Prop
  | [], a => Q a
  | o :: rest, a => if Region.wanted o (yielded ops a.tmps) = true then ∃ v, gives P J o a v ∧ wpKeep P J ops Q rest (a.put o.dst v) else wpKeep P J ops Q rest (a.put o.dst undef)

theorem keep_nil {Q : Act → Prop} {a : Act} (h : Q a) : wpKeep P J ops Q [] a := h
theorem keep_done {F : Act} : wpKeep P J ops (fun G => G = F) [] F := rfl
theorem keep_run {Q : Act → Prop} {a : Act} {o : Oper} {rest : List Oper} {v : Value} (hw : Region.wanted o (yielded ops a.tmps) = true) (h : gives P J o a v)
    (hr : ∀ K : Act → Prop, (∀ b, wpKeep P J ops Q rest b → K b) → K (a.put o.dst v)) : wpKeep P J ops Q (o :: rest) a := by
  unfold wpKeep; rw [if_pos hw]; exact ⟨v, h, hr _ (fun _ h => h)⟩
theorem keep_skip {Q : Act → Prop} {a : Act} {o : Oper} {rest : List Oper} (hw : Region.wanted o (yielded ops a.tmps) = false)
    (hr : ∀ K : Act → Prop, (∀ b, wpKeep P J ops Q rest b → K b) → K (a.put o.dst undef)) : wpKeep P J ops Q (o :: rest) a := by
  unfold wpKeep; rw [if_neg (by rw [hw]; exact Bool.false_ne_true)]; exact hr _ (fun _ h => h)

/-- What each operation of a walk gave, seen from the walk's end. -/
def Good (P : Program) (J : World → Prop) (ops : Array Oper) (F : Act) (o : Oper) (v : Value) : Prop :=
  (Region.wanted o (yielded ops F.tmps) = true ∧ gives P J o F v) ∨ (Region.wanted o (yielded ops F.tmps) = false ∧ v = undef)

/-- Nothing that comes up from here on writes what an earlier one looks at. -/
def Free (ops : Array Oper) : List Oper → Prop
  | [] => True
  | o :: rest => (∀ p ∈ o :: rest, ∀ d, p.dst = some d → d ∉ o.looksAt ops) ∧ Free ops rest

def puts (a : Act) : List Oper → List Value → Act
  | o :: l, v :: vs => puts (a.put o.dst v) l vs
  | _, _ => a

theorem puts_same (o : Oper) (hs : ∀ cs b, o.op ≠ .select cs b) : ∀ (l : List Oper) (vs : List Value) (a : Act), (∀ p ∈ l, ∀ d, p.dst = some d → d ∉ o.looksAt ops) →
    execOp (puts a l vs).eval o = execOp a.eval o ∧ Region.wanted o (yielded ops (puts a l vs).tmps) = Region.wanted o (yielded ops a.tmps)
  | [], vs, a, _ => by cases vs <;> exact ⟨rfl, rfl⟩
  | p :: l, [], a, _ => ⟨rfl, rfl⟩
  | p :: l, v :: vs, a, h => by
    have h1 := puts_same o hs l vs (a.put p.dst v) (fun q hq => h q (by simp [hq]))
    have h2 := h p (by simp)
    exact ⟨h1.1.trans (execOp_put o hs a p.dst v h2), h1.2.trans (wanted_put o a p.dst v h2)⟩

theorem keep_out {Q : Act → Prop} : ∀ (l : List Oper) (a : Act), (∀ o ∈ l, ∀ cs b, o.op ≠ .select cs b) → Free ops l → wpKeep P J ops Q l a →
    ∃ vs : List Value, vs.length = l.length ∧ Q (puts a l vs) ∧ ∀ (k : Nat) (o : Oper) (v : Value), l[k]? = some o → vs[k]? = some v → Good P J ops (puts a l vs) o v
  | [], a, _, _, h => ⟨[], rfl, h, fun k o v hk _ => by simp at hk⟩
  | o :: l, a, hs, hf, h => by
    have go : ∀ v, (Region.wanted o (yielded ops a.tmps) = true ∧ gives P J o a v) ∨ (Region.wanted o (yielded ops a.tmps) = false ∧ v = undef) → wpKeep P J ops Q l (a.put o.dst v) →
        ∃ vs : List Value, vs.length = (o :: l).length ∧ Q (puts a (o :: l) vs) ∧ ∀ (k : Nat) (p : Oper) (x : Value), (o :: l)[k]? = some p → vs[k]? = some x → Good P J ops (puts a (o :: l) vs) p x := by
      intro v hv hr
      obtain ⟨vs, h1, h2, h3⟩ := keep_out l (a.put o.dst v) (fun p hp => hs p (by simp [hp])) hf.2 hr
      refine ⟨v :: vs, by simp [h1], h2, ?_⟩
      intro k p x hk hx
      cases k with
      | zero =>
        simp only [List.getElem?_cons_zero, Option.some.injEq] at hk hx
        subst hk; subst hx
        have hself : ∀ d, o.dst = some d → d ∉ o.looksAt ops := hf.1 o (by simp)
        have hso := hs o (by simp)
        obtain ⟨e1, e2⟩ := puts_same o hso l vs (a.put o.dst v) (fun q hq => hf.1 q (by simp [hq]))
        have e3 := execOp_put o hso a o.dst v hself
        have e4 := wanted_put o a o.dst v hself
        unfold Good
        show (Region.wanted o (yielded ops (puts (a.put o.dst v) l vs).tmps) = true ∧ gives P J o (puts (a.put o.dst v) l vs) v) ∨ _
        rcases hv with ⟨w1, w2⟩ | ⟨w1, w2⟩
        · exact .inl ⟨by rw [e2, e4]; exact w1, gives_same w2 (e1.trans e3)⟩
        · exact .inr ⟨by show Region.wanted o (yielded ops (puts (a.put o.dst v) l vs).tmps) = false; rw [e2, e4]; exact w1, w2⟩
      | succ k =>
        simp only [List.getElem?_cons_succ] at hk hx
        exact h3 k p x hk hx
    unfold wpKeep at h
    split at h
    · rename_i hw
      obtain ⟨v, hg, hr⟩ := h
      exact go v (.inl ⟨hw, hg⟩) hr
    · rename_i hw
      exact go undef (.inr ⟨by simpa using hw, rfl⟩) h

theorem put_size (a : Act) (d : Option Tmp) (v : Value) : (a.put d v).tmps.size = a.tmps.size := by cases d <;> simp [Act.put]
theorem put_defers (a : Act) (d : Option Tmp) (v : Value) : (a.put d v).defers = a.defers := by cases d <;> rfl
theorem put_other (a : Act) (d : Option Tmp) (v : Value) (s : Nat) (h : d ≠ some s) : (a.put d v).tmps[s]? = a.tmps[s]? := by
  cases d with
  | none => rfl
  | some t => simp only [Act.put]; exact Array.getElem?_setIfInBounds_ne (fun e => h (by rw [e]))
theorem put_same (a : Act) (s : Nat) (v : Value) : (a.put (some s) v).tmps[s]? = if s < a.tmps.size then some v else none := by
  simp only [Act.put]
  split
  · rename_i h; simp [h]
  · rename_i h; simp [h]

theorem puts_size : ∀ (l : List Oper) (vs : List Value) (a : Act), (puts a l vs).tmps.size = a.tmps.size ∧ (puts a l vs).defers = a.defers
  | [], vs, a => by cases vs <;> exact ⟨rfl, rfl⟩
  | p :: l, [], a => ⟨rfl, rfl⟩
  | p :: l, v :: vs, a => by
    have h := puts_size l vs (a.put p.dst v)
    exact ⟨h.1.trans (put_size _ _ _), h.2.trans (put_defers _ _ _)⟩
theorem puts_other (s : Nat) : ∀ (l : List Oper) (vs : List Value) (a : Act), (∀ p ∈ l, p.dst ≠ some s) → (puts a l vs).tmps[s]? = a.tmps[s]?
  | [], vs, a, _ => by cases vs <;> rfl
  | p :: l, [], a, _ => rfl
  | p :: l, v :: vs, a, h => (puts_other s l vs (a.put p.dst v) (fun q hq => h q (by simp [hq]))).trans (put_other a p.dst v s (h p (by simp)))
theorem puts_at (s : Nat) : ∀ (l : List Oper) (vs : List Value) (a : Act) (k : Nat) (o : Oper) (v : Value), l[k]? = some o → vs[k]? = some v → o.dst = some s → (∀ j p, l[j]? = some p → j ≠ k → p.dst ≠ some s) →
    (puts a l vs).tmps[s]? = if s < a.tmps.size then some v else none
  | [], _, _, _, _, _, h, _, _, _ => by simp at h
  | p :: l, [], _, _, _, _, _, h, _, _ => by simp at h
  | p :: l, x :: vs, a, 0, o, v, hk, hv, hd, hu => by
    simp only [List.getElem?_cons_zero, Option.some.injEq] at hk hv
    subst hk; subst hv
    show (puts (a.put p.dst x) l vs).tmps[s]? = _
    rw [puts_other s l vs _ (fun q hq => by
      obtain ⟨j, hj⟩ := List.getElem?_of_mem hq
      exact hu (j + 1) q (by simpa using hj) (by omega)), hd]
    exact put_same a s x
  | p :: l, x :: vs, a, k + 1, o, v, hk, hv, hd, hu => by
    simp only [List.getElem?_cons_succ] at hk hv
    have h := puts_at s l vs (a.put p.dst x) k o v hk hv hd (fun j q hj hne => hu (j + 1) q (by simpa using hj) (by omega))
    rw [put_size] at h
    exact h

/-- What a region must be for such a walk: seen by looking. -/
def keepB (ops : Array Oper) : Bool :=
  Region.noSelect ops && (List.range ops.size).all fun i => match ops[i]? with
    | none => true
    | some o => (List.range ops.size).all fun j => match (ops[j]?).bind (·.dst) with
      | none => true
      | some d => (!(o.looksAt ops).contains d || (decide (j < i) && o.after.toList.any fun e => Region.binds .any e && e.on == j)) && (decide (i = j) || o.dst != some d)

theorem keepB_spec (h : keepB ops = true) : (∀ o ∈ ops.toList, ∀ cs b, o.op ≠ .select cs b) ∧ Free ops ops.toList ∧
    (∀ (i j : Nat) (o p : Oper) (d : Tmp), ops[i]? = some o → ops[j]? = some p → p.dst = some d → d ∈ o.looksAt ops → ∃ e ∈ o.after, Region.binds .any e = true ∧ e.on = j) ∧
    (∀ (i j : Nat) (o p : Oper) (d : Tmp), ops[i]? = some o → ops[j]? = some p → o.dst = some d → p.dst = some d → i = j) := by
  unfold keepB at h
  rw [Bool.and_eq_true] at h
  obtain ⟨h0, h1⟩ := h
  have key : ∀ (i j : Nat) (o p : Oper) (d : Tmp), ops[i]? = some o → ops[j]? = some p → p.dst = some d →
      (d ∈ o.looksAt ops → j < i ∧ ∃ e ∈ o.after, Region.binds .any e = true ∧ e.on = j) ∧ (i = j ∨ o.dst ≠ some d) := by
    intro i j o p d hi hj hd
    have a1 := List.all_eq_true.1 h1 i (List.mem_range.2 (Array.getElem?_eq_some_iff.1 hi).1)
    simp only [hi] at a1
    have a2 := List.all_eq_true.1 a1 j (List.mem_range.2 (Array.getElem?_eq_some_iff.1 hj).1)
    simp only [hj, Option.bind_some, hd, Bool.and_eq_true, Bool.or_eq_true, Bool.not_eq_true', decide_eq_true_iff, List.any_eq_true, Array.mem_toList_iff, bne_iff_ne, beq_iff_eq] at a2
    refine ⟨fun hm => ?_, ?_⟩
    · rcases a2.1 with c | ⟨c1, e, c2, c3, c4⟩
      · rw [List.contains_iff_mem.2 hm] at c; cases c
      · exact ⟨c1, e, c2, c3, c4⟩
    · rcases a2.2 with c | c
      · exact .inl c
      · exact .inr c
  refine ⟨?_, ?_, fun i j o p d hi hj hd hm => ((key i j o p d hi hj hd).1 hm).2, fun i j o p d hi hj ho hd => ?_⟩
  · intro o ho
    obtain ⟨i, hi⟩ := List.getElem?_of_mem ho
    exact fun cs b => Region.noSelect_spec h0 i o cs b (by simpa using hi)
  · have hfree : ∀ (l : List Oper) (k : Nat), (∀ j, l[j]? = ops[k + j]?) → Free ops l := by
      intro l
      induction l with
      | nil => intro k _; trivial
      | cons o l ih =>
        intro k hl
        refine ⟨?_, ih (k + 1) (fun j => by have := hl (j + 1); simpa [Nat.add_assoc, Nat.add_comm 1 j] using this)⟩
        intro p hp d hd hm
        obtain ⟨j, hj⟩ := List.getElem?_of_mem hp
        have := ((key k (k + j) o p d (by have := hl 0; simpa using this.symm) (by rw [← hl j]; exact hj) hd).1 hm).1
        omega
    exact hfree ops.toList 0 (fun j => by simp)
  · rcases (key i j o p d hi hj hd).2 with c | c
    · exact c
    · exact absurd ho c

/-- A REGION THAT DRAWS ITS ORDER, WALKED ONCE IN THE TEXT's ORDER: every operation keeps J, and gives the same value in every world that keeps J. -/
theorem wp_region_keep {id : Nat} {a : Act} {w : World} {Q : Exit → Act → World → Prop} (J : World → Prop) (hm : P.follows .mixedOrders = true) (hB : keepB ops = true) (hb : backB ops = true) (hJ : J w.drew)
    (h : wpKeep P J ops (fun F => ∀ w', J w' → Q .normal F w') ops.toList a) : (Code.region id ops true).wp P Q a w := by
  obtain ⟨s1, s2, s3, s4⟩ := keepB_spec hB
  obtain ⟨vs, e1, e2, e3⟩ := keep_out ops.toList a s1 s2 h
  generalize hF : puts a ops.toList vs = F at *
  have hFs : F.tmps.size = a.tmps.size ∧ F.defers = a.defers := by rw [← hF]; exact puts_size _ _ _
  have hFat : ∀ (i : Nat) (o : Oper) (s : Nat), ops[i]? = some o → o.dst = some s → ∃ v, vs[i]? = some v ∧ F.tmps[s]? = if s < a.tmps.size then some v else none := by
    intro i o s hi hd
    have hlt : i < vs.length := by rw [e1]; simpa using (Array.getElem?_eq_some_iff.1 hi).1
    refine ⟨vs[i], List.getElem?_eq_getElem hlt, ?_⟩
    rw [← hF]
    exact puts_at s ops.toList vs a i o vs[i] (by simpa using hi) (List.getElem?_eq_getElem hlt) hd (fun j p hj hne hp => hne (s4 i j o p s hi (by simpa using hj) hd hp).symm)
  have hFno : ∀ s, (∀ (i : Nat) (o : Oper), ops[i]? = some o → o.dst ≠ some s) → F.tmps[s]? = a.tmps[s]? := by
    intro s hs
    rw [← hF]
    refine puts_other s _ _ _ (fun p hp => ?_)
    obtain ⟨j, hj⟩ := List.getElem?_of_mem hp
    exact hs j p (by simpa using hj)
  refine wp_region_inv (fun D b w' => J w' ∧ b.defers = a.defers ∧ b.tmps.size = a.tmps.size ∧ ∀ s, ((∃ (i : Nat) (o : Oper), ops[i]? = some o ∧ o.dst = some s ∧ D i = true) → b.tmps[s]? = F.tmps[s]?) ∧ ((¬ ∃ (i : Nat) (o : Oper), ops[i]? = some o ∧ o.dst = some s ∧ D i = true) → b.tmps[s]? = a.tmps[s]?)) hm ?_ ?_ (back_of hb) ?_
  · exact ⟨hJ, rfl, rfl, fun s => ⟨fun ⟨i, o, _, _, h⟩ => (by cases h), fun _ => rfl⟩⟩
  · intro D b w' i o hi hD hdeps ⟨hj, hd, hz, hT⟩ K hK
    have hlook : ∀ t, t ∈ o.looksAt ops → b.tmps[t]? = F.tmps[t]? := by
      intro t ht
      by_cases hx : ∃ (j : Nat) (p : Oper), ops[j]? = some p ∧ p.dst = some t
      · obtain ⟨j, p, hj, hp⟩ := hx
        obtain ⟨e, he, hbn, hon⟩ := s3 i j o p t hi hj hp ht
        exact (hT t).1 ⟨j, p, hj, hp, by rw [← hon]; exact hdeps e he hbn⟩
      · rw [(hT t).2 (fun ⟨j, p, h1, h2, _⟩ => hx ⟨j, p, h1, h2⟩), hFno t (fun j p h1 h2 => hx ⟨j, p, h1, h2⟩)]
    have hex : execOp b.eval o = execOp F.eval o := by
      refine execOp_congr o (s1 o (by simpa using Array.mem_of_getElem? hi)) (fun x hx => ?_)
      cases x with
      | tmp t =>
        have ht : t ∈ o.looksAt ops := List.mem_append_left _ (List.mem_filterMap.2 ⟨.tmp t, by simpa using hx, rfl⟩)
        show b.tmps.getD t undef = F.tmps.getD t undef
        rw [Array.getD_eq_getD_getElem?, Array.getD_eq_getD_getElem?, hlook t ht]
      | _ => rfl
    have hwt : Region.wanted o (yielded ops b.tmps) = Region.wanted o (yielded ops F.tmps) := by
      unfold Region.wanted
      cases hg : o.guard with
      | none => rfl
      | some gw =>
        obtain ⟨g, want⟩ := gw
        have hy : yielded ops b.tmps g = yielded ops F.tmps g := by
          unfold yielded
          cases ht : (ops[g]?).bind (·.dst) with
          | none => rfl
          | some t =>
            have : t ∈ o.looksAt ops := by simp [Oper.looksAt, hg, ht]
            simp only [Option.bind_some, hlook t this]
        simp only [hy]
    have hlt : i < vs.length := by rw [e1]; simpa using (Array.getElem?_eq_some_iff.1 hi).1
    have hgood := e3 i o vs[i] (by simpa using hi) (List.getElem?_eq_getElem hlt)
    have fin : ∀ w2, J w2 → K (b.put o.dst vs[i]) w2 := by
      intro w2 hj2
      refine hK _ _ ⟨hj2, by rw [put_defers]; exact hd, by rw [put_size]; exact hz, fun s => ?_⟩
      by_cases hs : o.dst = some s
      · obtain ⟨v, hv, hFv⟩ := hFat i o s hi hs
        obtain rfl : vs[i] = v := by rw [List.getElem?_eq_getElem hlt] at hv; exact Option.some.inj hv
        refine ⟨fun _ => ?_, fun hn => absurd ⟨i, o, hi, hs, (by show (i == i || D i) = true; simp)⟩ hn⟩
        rw [hs, put_same, hFv, hz]
      · rw [put_other _ _ _ _ hs]
        refine ⟨fun ⟨j, p, h1, h2, h3⟩ => (hT s).1 ⟨j, p, h1, h2, ?_⟩, fun hn => (hT s).2 (fun ⟨j, p, h1, h2, h3⟩ => hn ⟨j, p, h1, h2, (by show (j == i || D j) = true; rw [h3, Bool.or_true])⟩)⟩
        by_cases hji : j = i
        · subst hji
          rw [hi] at h1
          cases h1
          exact absurd h2 hs
        · have : (j == i) = false := by simpa using hji
          have h4 : (j == i || D j) = true := h3
          rw [this, Bool.false_or] at h4
          exact h4
    unfold wpOp
    simp only [hi]
    rw [hwt]
    rcases hgood with ⟨g1, g2⟩ | ⟨g1, g2⟩
    · rw [if_pos g1]
      exact .inl (gives_wp (gives_same g2 hex) hj fin)
    · rw [if_neg (by rw [g1]; exact Bool.false_ne_true)]
      rw [← g2]
      exact fin _ hj
  · intro D b w' hall ⟨hj, hd, hz, hT⟩
    have : b = F := by
      have ht : b.tmps = F.tmps := by
        apply Array.ext_getElem?
        intro s
        by_cases hx : ∃ (j : Nat) (p : Oper), ops[j]? = some p ∧ p.dst = some s
        · obtain ⟨j, p, h1, h2⟩ := hx
          exact (hT s).1 ⟨j, p, h1, h2, hall j (Array.getElem?_eq_some_iff.1 h1).1⟩
        · rw [(hT s).2 (fun ⟨j, p, h1, h2, _⟩ => hx ⟨j, p, h1, h2⟩), hFno s (fun j p h1 h2 => hx ⟨j, p, h1, h2⟩)]
      cases b; cases F
      simp only at ht hd hFs
      rw [ht, hd, hFs.2]
    rw [this]
    exact e2 w' hj
/-- The same, the frame at the end named. -/
theorem wp_region_kept {id : Nat} {a F : Act} {w : World} {Q : Exit → Act → World → Prop} (J : World → Prop) (hm : P.follows .mixedOrders = true) (hB : keepB ops = true) (hb : backB ops = true) (hJ : J w.drew)
    (h : wpKeep P J ops (fun G => G = F) ops.toList a) (hQ : ∀ w', J w' → Q .normal F w') : (Code.region id ops true).wp P Q a w := by
  refine wp_region_keep J hm hB hb hJ ?_
  have mono : ∀ (l : List Oper) (b : Act), wpKeep P J ops (fun G => G = F) l b → wpKeep P J ops (fun G => ∀ w', J w' → Q .normal G w') l b := by
    intro l
    induction l with
    | nil => intro b hb; obtain rfl : b = F := hb; exact hQ
    | cons o l ih =>
      intro b hb
      unfold wpKeep at hb ⊢
      split
      · rename_i hw
        rw [if_pos hw] at hb
        obtain ⟨v, h1, h2⟩ := hb
        exact ⟨v, h1, ih _ h2⟩
      · rename_i hw
        rw [if_neg hw] at hb
        exact ih _ hb
  exact mono _ _ h
theorem givesUpon_value (v x : Value) (w : World) : givesUpon P J v (.ok (.value x) w) = (x = v ∧ J w) := rfl
theorem givesUpon_skip (v : Value) (w : World) : givesUpon P J v (.ok .skip w) = (v = undef ∧ J w) := rfl
theorem givesUpon_enter (v : Value) (w : World) (f : FuncId) (args : Array Value) : givesUpon P J v (.ok (.enter f args) w) = Calls P f args w fun e w'' => e = .returned v ∧ J w'' := rfl
end
attribute [go_sem] givesUpon_value givesUpon_skip givesUpon_enter
attribute [irreducible] wpKeep
end Go.Proofs.YtdalfkdfpeffdaaDoor
