/- Proved here: what a row's listed variables give the walks (Env), and a row's last step; for the rows of this seat. -/
import Derived.Test.YtdalfkdfpeffdaaDoorMX
import Derived.Test.YtdalfkdfpeffdaaDoorRows
import Derived.ProofKit
import Derived.OpenShut
import Derived.LaidMore
import Derived.Lay
import Derived.Handed
import Derived.HandedShaped
import Derived.Carry
import Derived.SevenTiedAt
import Derived.Stop.Joined
import Derived.Stop.LaidErr
import Derived.Lib.LaidTab
import Derived.Shelf.Vars
namespace Go.Proofs.YtdalfkdfpeffdaaDoor
open Go.ChangeShapes Go.WideShapes Go.ChangeAt Go.RowKit

/-- The plain wrap, with the world's shape and a condition. -/
theorem handed_shaped {H : Type} {enc : TypeId × Value → H} {a : Assume} {C : Checked} {os : Os} {f : FuncId} {fn : Func} {s : ChangeSpec} {conds : List PathCond} {apart fresh handsOn again : Bool} {X : World → Array Value → Prop}
    (hX : ∀ (w w' : World) (args : Array Value), w.heap = w'.heap → X w args → X w' args)
    (own : ownKnob C.prog.godebug = none) (started : os.Started) (noInit : C.prog.inits.idxOf? f = none) (hfn : C.prog.funcs[f]? = some fn)
    (witness : ∃ (w : World) (tape : Tape) (i : Input), w.os = os ∧ (w.forCall tape i).Shaped C.prog ∧ i.vars = [] ∧ Input.okWide C.prog (w.forCall tape i) .any w.heap.size f i ∧
      ((s.pre enc C.prog fn conds apart (w.forCall tape i).memory i.args ∧ X (w.forCall tape i).memory i.args) ∧ sizedMet enc C.prog fn (OpenSpec.ofChange s) apart (w.forCall tape i).memory i.args) ∧ a.holds C.prog (lone (Frame.enter C.prog f i.args .normal) [] (w.forCall tape i)))
    (contract : ∀ (W : World) (base : Nat) (args : Array Value) (ds gs : List (DataW H)) (before : List MemPlace),
      (∀ (j : Nat) t v, fn.params[j]? = some t → args[j]? = some v → Value.okWide C.prog W .any base t v) →
      DataW.Whole enc C.prog fn.params.toList s.vars apart W args.toList ds gs before →
      (DataW.weightsEach C.prog (fn.params.toList ++ s.plain.varTypes C.prog) (ds ++ gs)).all (· ≤ reachBytes) = true → W.ShapedOpen C.prog → X W args →
      Calls C.prog f args W fun e W' => ∃ v, e = .returned v ∧ s.post enc C.prog fn apart fresh handsOn again W args v W') :
    ReturnsInHanded a C os f .any (fun w args => (s.pre enc C.prog fn conds apart w args ∧ X w args) ∧ sizedMet enc C.prog fn (OpenSpec.ofChange s) apart w args) (s.post enc C.prog fn apart fresh handsOn again) := by
  refine returnsInHanded_of_calls own started noInit witness ?_
  intro w tape i _ hsh _ hok hpre _
  obtain ⟨_, _, _, fn', hfn', _, _, _, _, hval⟩ := hok
  have e : fn' = fn := Option.some.inj (hfn'.symm.trans hfn)
  subst e
  obtain ⟨⟨⟨ds, gs, before, hw, _⟩, hx⟩, hz⟩ := hpre
  have hw' := DataW.Whole.of_heap (w' := w.forCall tape i) (by rfl) hw
  refine (contract (w.forCall tape i) w.heap.size i.args ds gs before hval hw' (hz.weights hw) hsh (hX _ _ _ (by rfl) hx)).mono fun e W' ⟨v, he, hp⟩ => ?_
  subst he
  exact ChangeSpec.post_blind hp

theorem var_lt {P : Program} {W : World} {n : String} {g : Nat} {cs : Array Value} (hg : P.globalNamed n = some g) (h : W.var? P n = some cs) : g < W.heap.size := by
  unfold World.var? at h
  rw [hg, Option.bind_some] at h
  cases hh : W.heap[g]? with
  | none => rw [hh] at h; cases h
  | some o => exact (Array.getElem?_eq_some_iff.1 hh).1

theorem Tryd.own : ownKnob Tryd.prog.godebug = none := by kernel_rfl
theorem Tryd.laidOut : laidOutB Tryd.prog = true := by kernel_rfl
theorem Tryd.star : ("*" ++ "errors.errorString" : String) = "*errors.errorString" := by decide
theorem Tryd.rowErr (u : TypeId) (h : Tryd.prog.typeName? 3 u = some "*errors.errorString") : u = 142 :=
  typeName_ptr_named (nm := "errors.errorString") (by rw [Tryd.star]; kernel_rfl) (by kernel_rfl) (by decide) u (by rw [Tryd.star]; exact h)

/-- What every row of the seat lists. -/
def laidAll : List (String × DataW Unit) := [("math/bits.deBruijn32tab", Rows.laid_math_bits_deBruijn32tab), ("math/bits.deBruijn64tab", Rows.laid_math_bits_deBruijn64tab), ("internal/strconv.uint64pow10", Rows.laid_internal_strconv_uint64pow10), ("unicode/utf8.acceptRanges", Rows.laid_unicode_utf8_acceptRanges), ("strconv.ErrRange", Rows.laid_strconv_ErrRange), ("strconv.ErrSyntax", Rows.laid_strconv_ErrSyntax), ("unicode/utf8.first", Rows.laid_unicode_utf8_first)]

theorem pow10_laid : (Rows.laid_internal_strconv_uint64pow10 : DataW Unit) = Lib.tabData .u64 Lib.pow10Tab := by kernel_rfl

/-- WHAT THE CONDITION GIVES THE WALKS. -/
theorem env_of_laid {W : World} (h : laidMetH Tryd.prog laidAll W) (hsh : W.ShapedOpen Tryd.prog) : Env W := by
  rw [MakeChecks.laidMetH_plain _ _ _ (by kernel_rfl)] at h
  have h3 := h.tail.tail
  have h4 := h3.tail
  have h5 := h4.tail
  have h6 := h5.tail
  rw [pow10_laid] at h3
  have ht := Lib.tabIs_of_head (g := 0) (t := 120) (e := 96) (n := 20) (by kernel_rfl) (by kernel_rfl) Tryd.underlying120 Tryd.underlying96 (by kernel_rfl) (by kernel_rfl) h3
  obtain ⟨a5, s5, hv5, -, -, -⟩ := laid_sentinel h5 (g := 3) (by kernel_rfl) (ti := 71) (by kernel_rfl) Tryd.underlying71 Tryd.rowErr Tryd.underlying142 Tryd.underlying144 rfl rfl Tryd.underlying9 (by kernel_rfl) (by kernel_rfl)
  obtain ⟨a6, s6, hv6, -, -, -⟩ := laid_sentinel h6 (g := 2) (by kernel_rfl) (ti := 71) (by kernel_rfl) Tryd.underlying71 Tryd.rowErr Tryd.underlying142 Tryd.underlying144 rfl rfl Tryd.underlying9 (by kernel_rfl) (by kernel_rfl)
  obtain ⟨ps, ⟨g0, t0, cs0, f0, p0, q0, hg0, ht0, hv0, hd0, _, e0⟩, _, hrows⟩ := h4
  have hlt := var_lt hg0 hv0
  obtain rfl := Option.some.inj ((show Tryd.prog.globalNamed "unicode/utf8.acceptRanges" = some 7 by kernel_rfl).symm.trans hg0)
  refine ⟨ht, ?_, ⟨_, _, hv6⟩, ⟨_, _, hv5⟩, ?_⟩
  · exact cell_of_shapedOpen_int (t := 3) (zero := #[.int .i64 0]) hsh (of_decide_eq_true (by kernel_rfl)) (by kernel_rfl) rfl (by kernel_rfl) (by kernel_rfl) Tryd.underlying3
  · unfold gtop
    omega

/-- The row's last step of a law. -/
theorem law_post {H : Type} {enc : TypeId × Value → H} {P : Program} {f : Func} {s : ChangeSpec} {t : TypeId} {W W' : World} {args : Array Value} {ds gs : List (DataW H)} {before : List MemPlace} {apart fresh : Bool}
    (hW : DataW.Whole enc P f.params.toList s.vars apart W args.toList ds gs before) (hvars : s.vars = []) (hr : f.resultTypes = #[t]) (ht : P.underlying t = some .bool)
    (hfn : s.fn H (ds ++ gs) = { results := [.lit (.bool true)], args := ds }) (hb : Below W.heap.size W W')
    (hargs : DataW.TrodAll enc P W' 0 (fun b => decide (b < W.heap.size)) true f.params.toList args.toList ds before) :
    s.post enc P f apart fresh false false W args (.bool true) W' := by
  refine ⟨ds, gs, before, [], before, [], hW, ?_, ?_, ?_, World.keptBut_mono (fun p hp => ⟨hp, .inr (by simpa using hp)⟩) (hb.frame (· ∈ before)), fun h => by cases h⟩
  · rw [hfn, hr]
    exact trodAll_mk1 (shut_bool ht true)
  · rw [hfn]
    exact hargs
  · rw [hfn, hvars]
    rfl
/-- A row of integers, read. -/
theorem row_ints {H : Type} {enc : TypeId × Value → H} {P : Program} {w : World} {base : Nat} {spare : Nat → Bool} {held : Bool} {fuel : Nat} {t e : TypeId} {n : Nat} {k : IntKind} {cs : List Value} {x : DataW H × List MemPlace}
    (ht : P.underlying t = some (.array n e)) (he : P.underlying e = some (.int k)) (hce : P.cellsOf e = 1) (h : DataW.trod enc P w base spare held fuel t cs = some x) :
    cs.length = P.cellsOf t ∧ ∀ i, i < n → ∃ z, cs[i]? = some (.int k z) ∧ (Lit.int k z).wf = true := by
  obtain ⟨xs, m, _, _, hl, hn, hel⟩ := DataW.trod_array ht h
  refine ⟨hl, fun i hi => ?_⟩
  have hE := hel i hi
  rw [hce, Nat.mul_one, List.getElem?_eq_getElem (by omega)] at hE
  obtain ⟨z, e1, _, e3⟩ := DataW.trod_int he hE
  refine ⟨z, ?_, e3⟩
  have h0 : ((cs.drop i).take 1)[0]? = some (.int k z) := by rw [e1]; rfl
  simpa using h0
theorem rows_ints {H : Type} {enc : TypeId × Value → H} {P : Program} {w : World} {base : Nat} {spare : Nat → Bool} {held : Bool} {fuel : Nat} {t r e : TypeId} {n m c : Nat} {k : IntKind} {cs : List Value} {x : DataW H × List MemPlace}
    (ht : P.underlying t = some (.array m r)) (hr : P.underlying r = some (.array n e)) (he : P.underlying e = some (.int k)) (hce : P.cellsOf e = 1) (hcr : P.cellsOf r = n) (hct : P.cellsOf t = c) (hc : c = m * n) (h : DataW.trod enc P w base spare held fuel t cs = some x) :
    cs.length = c ∧ ∀ i, i < c → ∃ z, cs[i]? = some (.int k z) ∧ (Lit.int k z).wf = true := by
  obtain ⟨xs, q, _, _, hl, hn, hel⟩ := DataW.trod_array ht h
  refine ⟨hl.trans hct, fun i hi => ?_⟩
  have hn0 : 0 < n := by
    rcases Nat.eq_zero_or_pos n with h0 | h0
    · rw [h0, Nat.mul_zero] at hc; omega
    · exact h0
  have hj : i / n < m := by
    rw [Nat.div_lt_iff_lt_mul hn0]; omega
  have hE := hel (i / n) hj
  rw [List.getElem?_eq_getElem (by omega)] at hE
  obtain ⟨-, h2⟩ := row_ints hr he hce hE
  obtain ⟨z, e1, e2⟩ := h2 (i % n) (Nat.mod_lt _ hn0)
  refine ⟨z, ?_, e2⟩
  rw [hcr, List.getElem?_take_of_lt (Nat.mod_lt _ hn0), List.getElem?_drop] at e1
  rw [Nat.mul_comm, Nat.div_add_mod] at e1
  exact e1
theorem list_ints {k : IntKind} : ∀ (l : List Value), (∀ i, i < l.length → ∃ z, l[i]? = some (.int k z) ∧ (Lit.int k z).wf = true) → ∃ zs : List Int, l = zs.map (Value.int k) ∧ ∀ z ∈ zs, (Lit.int k z).wf = true
  | [], _ => ⟨[], rfl, fun _ h => by cases h⟩
  | v :: l, h => by
    obtain ⟨z, e1, e2⟩ := h 0 (by simp)
    obtain ⟨zs, e3, e4⟩ := list_ints l (fun i hi => by simpa using h (i + 1) (by simpa using hi))
    simp only [List.getElem?_cons_zero, Option.some.injEq] at e1
    exact ⟨z :: zs, by rw [e1, e3]; rfl, fun y hy => by
      rcases List.mem_cons.1 hy with rfl | hy
      · exact e2
      · exact e4 y hy⟩
theorem okWide_agg {P : Program} {w : World} {r : Reach} {base : Nat} {t e : TypeId} {n : Nat} {v : Value} (ht : P.underlying t = some (.array n e)) (h : Value.okWide P w r base t v) : ∃ cs, v = .agg cs ∧ cs.size = P.cellsOf t := by
  unfold Value.okWide at h
  rw [ht] at h
  obtain ⟨cs, h1, h2, _⟩ := h
  exact ⟨cs, h1, h2⟩
end Go.Proofs.YtdalfkdfpeffdaaDoor
