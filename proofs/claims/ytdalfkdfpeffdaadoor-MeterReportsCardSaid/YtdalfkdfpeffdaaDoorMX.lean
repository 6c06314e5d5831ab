/- Proved here: the fixed examples of the laws come to true; where the library's tables stand (Env). -/
import Derived.Test.YtdalfkdfpeffdaaDoorML
namespace Go.Proofs.YtdalfkdfpeffdaaDoor
open Go.RowKit

def exT : ByteArray := ⟨#[105, 115, 115, 117, 101, 115, 32, 49, 50, 44, 32, 115, 99, 97, 108, 97, 114, 115, 32, 51, 44, 32, 109, 111, 118, 101, 115, 32, 52, 44, 32, 109, 97, 115, 107, 101, 100, 32, 48]⟩
theorem exT1 : textB ⟨12, 3, 4, 0⟩ = exT := by kernel_rfl
theorem exT2 : parseM exT = (⟨12, 3, 4, 0⟩, 0) := by kernel_rfl
theorem exT3 : parseM ⟨#[]⟩ = (C4.zero, 3) := by kernel_rfl
def exNames : List ByteArray := [⟨#[97]⟩, ⟨#[108, 111, 110, 103]⟩]
def exCosts : List C4 := [⟨5, 0, 10, 1⟩, ⟨100, 2, 3, 4⟩]
def exW : ByteArray := ⟨(([110, 97, 109, 101, 32, 32, 32, 105, 115, 115, 117, 101, 115, 32, 32, 115, 99, 97, 108, 97, 114, 115, 32, 32, 109, 111, 118, 101, 115, 32, 32, 109, 97, 115, 107, 101, 100, 10].append [97, 32, 32, 32, 32, 32, 32, 32, 32, 32, 32, 32, 53, 32, 32, 32, 32, 32, 32, 32, 32, 48, 32, 32, 32, 32, 32, 49, 48, 32, 32, 32, 32, 32, 32, 32, 49, 10]).append ([108, 111, 110, 103, 32, 32, 32, 32, 32, 32, 49, 48, 48, 32, 32, 32, 32, 32, 32, 32, 32, 50, 32, 32, 32, 32, 32, 32, 51, 32, 32, 32, 32, 32, 32, 32, 52, 10].append [116, 111, 116, 97, 108, 32, 32, 32, 32, 32, 49, 48, 53, 32, 32, 32, 32, 32, 32, 32, 32, 50, 32, 32, 32, 32, 32, 49, 51, 32, 32, 32, 32, 32, 32, 32, 53, 10])).toArray⟩
theorem exR1 : reportM exNames exCosts = (exW, 0) := by kernel_rfl
theorem exR2 : reportM [] exCosts = (⟨#[]⟩, 1) := by kernel_rfl

theorem ex_text (w : World) (he : Env w) : Calls Tryd.prog 12 #[.agg #[.int .i64 12, .int .i64 3, .int .i64 4, .int .i64 0]] w fun e w' => e = .returned (.string ⟨#[105, 115, 115, 117, 101, 115, 32, 49, 50, 44, 32, 115, 99, 97, 108, 97, 114, 115, 32, 51, 44, 32, 109, 111, 118, 101, 115, 32, 52, 44, 32, 109, 97, 115, 107, 101, 100, 32, 48]⟩) ∧ Below w.heap.size w w' :=
  (textB_any 12 3 4 0 w he (by decide) (by decide) (by decide) (by decide) (by decide) (by decide) (by decide) (by decide)).mono fun _ _ ⟨h1, h2⟩ => ⟨by rw [h1, exT1]; rfl, h2⟩
theorem ex_p1 (w : World) (he : Env w) : Calls Tryd.prog 13 #[.string ⟨#[105, 115, 115, 117, 101, 115, 32, 49, 50, 44, 32, 115, 99, 97, 108, 97, 114, 115, 32, 51, 44, 32, 109, 111, 118, 101, 115, 32, 52, 44, 32, 109, 97, 115, 107, 101, 100, 32, 48]⟩] w fun e w' => e = .returned (.agg #[.int .i64 12, .int .i64 3, .int .i64 4, .int .i64 0, .int .i64 0]) ∧ Below w.heap.size w w' :=
  (parsed_any exT w (by decide) he).mono fun _ _ ⟨h1, h2⟩ => ⟨by rw [h1, exT2], h2⟩
theorem ex_p2 (w : World) (he : Env w) : Calls Tryd.prog 13 #[.string ⟨#[]⟩] w fun e w' => e = .returned (.agg #[.int .i64 0, .int .i64 0, .int .i64 0, .int .i64 0, .int .i64 3]) ∧ Below w.heap.size w w' :=
  (parsed_any ⟨#[]⟩ w (by decide) he).mono fun _ _ ⟨h1, h2⟩ => ⟨by rw [h1, exT3]; rfl, h2⟩

/-- What the examples' tests find. -/
structure ExSt (A : Nat) (w wr : World) : Prop where
  c0 : wr.cell? ⟨A, 0, none⟩ = some (.int .i64 12)
  c1 : wr.cell? ⟨A, 1, none⟩ = some (.int .i64 3)
  c2 : wr.cell? ⟨A, 2, none⟩ = some (.int .i64 4)
  c3 : wr.cell? ⟨A, 3, none⟩ = some (.int .i64 0)
  l : Costs wr (A + 1) 0 exCosts
  env : Env wr
  below : Below A w wr
  size : A + 1 < wr.heap.size

theorem ExSt.next {A : Nat} {w wr w2 : World} (h : ExSt A w wr) (hb : Below wr.heap.size wr w2) : ExSt A w w2 := by
  obtain ⟨c0, c1, c2, c3, l, env, below, size⟩ := h
  exact ⟨(hb.cell (by simp; omega)).trans c0, (hb.cell (by simp; omega)).trans c1, (hb.cell (by simp; omega)).trans c2, (hb.cell (by simp; omega)).trans c3, l.below hb size, env.next hb, below.trans (hb.mono (by omega)), Nat.lt_of_lt_of_le size hb.size⟩
theorem ExSt.drew {A : Nat} {w wr : World} (h : ExSt A w wr) : ExSt A w wr.drew := h.next (Below.refl _ wr).drew

theorem ExSt.costs {A : Nat} {w wr : World} (h : ExSt A w wr) : CostsAt (some ⟨A + 1, 0, none⟩) exCosts wr := .inr ⟨A + 1, 0, rfl, h.size, h.l⟩

theorem ExSt.cells {A : Nat} {w wr : World} (h : ExSt A w wr) : wr.cell? ⟨A, 0, none⟩ = some (.int .i64 12) ∧ wr.cell? ⟨A, 1, none⟩ = some (.int .i64 3) ∧ wr.cell? ⟨A, 2, none⟩ = some (.int .i64 4) ∧ wr.cell? ⟨A, 3, none⟩ = some (.int .i64 0) ∧ wr.cell? ⟨A + 1, 0, none⟩ = some (.int .i64 5) ∧ wr.cell? ⟨A + 1, 1, none⟩ = some (.int .i64 0) ∧ wr.cell? ⟨A + 1, 2, none⟩ = some (.int .i64 10) ∧ wr.cell? ⟨A + 1, 3, none⟩ = some (.int .i64 1) :=
  ⟨h.c0, h.c1, h.c2, h.c3, by have := (h.l 0 _ rfl).1; simpa using this, by have := (h.l 0 _ rfl).2.1; simpa using this, by have := (h.l 0 _ rfl).2.2.1; simpa using this, by have := (h.l 0 _ rfl).2.2.2; simpa using this⟩

theorem ExSt.start (w : World) (he : Env w) : ExSt w.heap.size w ((w.alloc (.cells #[.int .i64 12, .int .i64 3, .int .i64 4, .int .i64 0] 26)).alloc (.cells #[.int .i64 5, .int .i64 0, .int .i64 10, .int .i64 1, .int .i64 100, .int .i64 2, .int .i64 3, .int .i64 4] 26)) := by
  have hb : Below w.heap.size w ((w.alloc (.cells #[.int .i64 12, .int .i64 3, .int .i64 4, .int .i64 0] 26)).alloc (.cells #[.int .i64 5, .int .i64 0, .int .i64 10, .int .i64 1, .int .i64 100, .int .i64 2, .int .i64 3, .int .i64 4] 26)) := ((Below.refl _ w).alloc (Nat.le_refl _) _).alloc (by simp) _
  refine ⟨by simp [go_sem], by simp [go_sem], by simp [go_sem], by simp [go_sem], ?_, he.next hb, hb, by simp⟩
  intro j c hj
  have hj2 : j = 0 ∨ j = 1 := by
    have := (List.getElem?_eq_some_iff.1 hj).1
    simp [exCosts] at this; omega
  rcases hj2 with rfl | rfl
  · simp [exCosts] at hj; subst hj; simp [go_sem]
  · simp [exCosts] at hj; subst hj; simp [go_sem]

/-- The names that the examples lay. -/
theorem ex_strs (w : World) : StrsAt (some ⟨w.heap.size, 0, none⟩) exNames (w.alloc (.cells #[.string ⟨#[97]⟩, .string ⟨#[108, 111, 110, 103]⟩] 9)) := by
  refine .inr ⟨w.heap.size, 0, rfl, by simp, ?_⟩
  intro j c hj
  have hj2 : j = 0 ∨ j = 1 := by
    have := (List.getElem?_eq_some_iff.1 hj).1
    simp [exNames] at this; omega
  rcases hj2 with rfl | rfl
  · simp [exNames] at hj; subst hj; simp
  · simp [exNames] at hj; subst hj; simp

theorem ex_names_size : ∀ n ∈ exNames, n.size ≤ 140737488355328 := by
  intro n hn
  have : n = ⟨#[97]⟩ ∨ n = ⟨#[108, 111, 110, 103]⟩ := by simpa [exNames] using hn
  rcases this with rfl | rfl <;> decide

theorem ex_r1 (A b : Nat) (w0 w : World) (hs : ExSt A w0 w) (hn : StrsAt (some ⟨b, 0, none⟩) exNames w) : Calls Tryd.prog 14 #[.slice (some ⟨b, 0, none⟩) 2 2, .slice (some ⟨A + 1, 0, none⟩) 2 2] w fun e w' =>
      e = .returned (.agg #[.string ⟨(([110, 97, 109, 101, 32, 32, 32, 105, 115, 115, 117, 101, 115, 32, 32, 115, 99, 97, 108, 97, 114, 115, 32, 32, 109, 111, 118, 101, 115, 32, 32, 109, 97, 115, 107, 101, 100, 10].append [97, 32, 32, 32, 32, 32, 32, 32, 32, 32, 32, 32, 53, 32, 32, 32, 32, 32, 32, 32, 32, 48, 32, 32, 32, 32, 32, 49, 48, 32, 32, 32, 32, 32, 32, 32, 49, 10]).append ([108, 111, 110, 103, 32, 32, 32, 32, 32, 32, 49, 48, 48, 32, 32, 32, 32, 32, 32, 32, 32, 50, 32, 32, 32, 32, 32, 32, 51, 32, 32, 32, 32, 32, 32, 32, 52, 10].append [116, 111, 116, 97, 108, 32, 32, 32, 32, 32, 49, 48, 53, 32, 32, 32, 32, 32, 32, 32, 32, 50, 32, 32, 32, 32, 32, 49, 51, 32, 32, 32, 32, 32, 32, 32, 53, 10])).toArray⟩, .int .i64 0]) ∧ Below w.heap.size w w' :=
  (lawreport_any (some ⟨b, 0, none⟩) (some ⟨A + 1, 0, none⟩) 2 2 exNames exCosts w hs.env (by decide) (by decide) hn hs.costs ex_names_size).mono fun _ _ ⟨h1, h2⟩ => ⟨by rw [h1, exR1]; rfl, h2⟩
theorem ex_r2 (A : Nat) (w0 w : World) (hs : ExSt A w0 w) : Calls Tryd.prog 14 #[.slice none 0 0, .slice (some ⟨A + 1, 0, none⟩) 2 2] w fun e w' =>
      e = .returned (.agg #[.string ⟨#[]⟩, .int .i64 1]) ∧ Below w.heap.size w w' :=
  (lawreport_any none (some ⟨A + 1, 0, none⟩) 0 2 [] exCosts w hs.env (by decide) (by decide) (.inl rfl) hs.costs (fun n hn => by cases hn)).mono fun _ _ ⟨h1, h2⟩ => ⟨by rw [h1, exR2], h2⟩

theorem ex_add (w : World) : Calls Tryd.prog 8 #[.agg #[.int .i64 12, .int .i64 3, .int .i64 4, .int .i64 0], .agg #[.int .i64 12, .int .i64 3, .int .i64 4, .int .i64 0]] w fun e w' => e = .returned (.agg #[.int .i64 24, .int .i64 6, .int .i64 8, .int .i64 0]) ∧ Below w.heap.size w w' :=
  (add_any 12 3 4 0 12 3 4 0 w).mono fun _ _ ⟨h1, h2⟩ => ⟨by rw [h1]; kernel_rfl, h2⟩
theorem ex_sub (w : World) : Calls Tryd.prog 9 #[.agg #[.int .i64 12, .int .i64 3, .int .i64 4, .int .i64 0], .agg #[.int .i64 12, .int .i64 3, .int .i64 4, .int .i64 0]] w fun e w' => e = .returned (.agg #[.int .i64 0, .int .i64 0, .int .i64 0, .int .i64 0]) ∧ Below w.heap.size w w' :=
  (sub_any 12 3 4 0 12 3 4 0 w).mono fun _ _ ⟨h1, h2⟩ => ⟨by rw [h1]; kernel_rfl, h2⟩
theorem ex_m1 (w : World) : Calls Tryd.prog 11 #[.agg #[.int .i64 12, .int .i64 3, .int .i64 4, .int .i64 0], .agg #[.int .i64 12, .int .i64 3, .int .i64 4, .int .i64 0]] w fun e w' => e = .returned (.bool true) ∧ Below w.heap.size w w' :=
  (atMost_any 12 3 4 0 12 3 4 0 w).mono fun _ _ ⟨h1, h2⟩ => ⟨by rw [h1]; rfl, h2⟩
theorem ex_m2 (w : World) : Calls Tryd.prog 11 #[.agg #[.int .i64 12, .int .i64 3, .int .i64 4, .int .i64 0], .agg #[.int .i64 5, .int .i64 0, .int .i64 10, .int .i64 1]] w fun e w' => e = .returned (.bool false) ∧ Below w.heap.size w w' :=
  (atMost_any 12 3 4 0 5 0 10 1 w).mono fun _ _ ⟨h1, h2⟩ => ⟨by rw [h1]; rfl, h2⟩
theorem ex_sum (A : Nat) (w0 w : World) (hs : ExSt A w0 w) : Calls Tryd.prog 10 #[.slice (some ⟨A + 1, 0, none⟩) 2 2] w fun e w' => e = .returned (.agg #[.int .i64 105, .int .i64 2, .int .i64 13, .int .i64 5]) ∧ Below w.heap.size w w' :=
  (sum_any (some ⟨A + 1, 0, none⟩) exCosts 2 w (by decide) hs.costs).mono fun _ _ ⟨h1, h2⟩ => ⟨by rw [h1]; kernel_rfl, h2⟩

theorem fieldE (a b c d e : Int) (w : World) : (Instr.field 38 (.agg #[.int .i64 a, .int .i64 b, .int .i64 c, .int .i64 d, .int .i64 e]) 1).run Tryd.prog w = .ok (.int .i64 e) w := by kernel_rfl
theorem fieldC (a b c d e : Int) (w : World) : (Instr.field 38 (.agg #[.int .i64 a, .int .i64 b, .int .i64 c, .int .i64 d, .int .i64 e]) 0).run Tryd.prog w = .ok (.agg #[.int .i64 a, .int .i64 b, .int .i64 c, .int .i64 d]) w := by kernel_rfl
theorem fieldT (t : ByteArray) (e : Int) (w : World) : (Instr.field 47 (.agg #[.string t, .int .i64 e]) 1).run Tryd.prog w = .ok (.int .i64 e) w := by kernel_rfl
theorem fieldS (t : ByteArray) (e : Int) (w : World) : (Instr.field 47 (.agg #[.string t, .int .i64 e]) 0).run Tryd.prog w = .ok (.string t) w := by kernel_rfl

set_option maxRecDepth 100000 in
set_option maxHeartbeats 4000000 in
theorem examples_any (w : World) (he : Env w) :
    Calls Tryd.prog 6 #[] w fun e w' => e = .returned (.bool true) ∧ Below w.heap.size w w' := by
  have H0 := Lib.hid (ExSt.start w he)
  have hfe := fieldE
  have hft := fieldT
  clear he
  go_enter Tryd.func6, Tryd.ntmps6
  go_wp2_with fail
  generalize hW : (w.alloc (.cells #[.int .i64 12, .int .i64 3, .int .i64 4, .int .i64 0] 26)).alloc (.cells #[.int .i64 5, .int .i64 0, .int .i64 10, .int .i64 1, .int .i64 100, .int .i64 2, .int .i64 3, .int .i64 4] 26) = wr at H0 ⊢
  clear hW
  go_cut [35] (fun s35 wx => s35 = .bool false ∧ ExSt w.heap.size w wx)
  case first =>
    obtain ⟨c0, c1, c2, c3, -, -, -, hsz⟩ := H0.out
    go_region_law (first
      | (go_simp; go_at_call 12; (with_reducible refine (ex_text _ H0.out.drew.env).mono ?_); rintro e w1 ⟨rfl, hb1⟩; have H1 := Lib.hid (H0.out.drew.next hb1); have c0' := H1.out.c0; have c1' := H1.out.c1; have c2' := H1.out.c2; have c3' := H1.out.c3; clear hb1)
      | (go_simp; go_at_call 13; (with_reducible refine (ex_p1 _ H1.out.env).mono ?_); rintro e w2 ⟨rfl, hb2⟩; have H2 := Lib.hid (H1.out.next hb2); have d0' := H2.out.c0; have d1' := H2.out.c1; have d2' := H2.out.c2; have d3' := H2.out.c3; clear hb2)
      | (go_simp; go_at_call 13; (with_reducible refine (ex_p2 _ H2.out.env).mono ?_); rintro e w3 ⟨rfl, hb3⟩; have H3 := Lib.hid (H2.out.next hb3); clear hb3)
      | (go_simp; go_at_call 14; (with_reducible refine (ex_r1 w.heap.size w3.heap.size w _ (H3.out.next ((Below.refl _ _).alloc (Nat.le_refl _) _)) (ex_strs w3)).mono ?_); rintro e w4 ⟨rfl, hb4⟩; have H4 := Lib.hid (H3.out.next (((Below.refl _ w3).alloc (Nat.le_refl _) _).trans (hb4.mono (by simp)))); clear hb4)
      | (go_simp; go_at_call 14; (with_reducible refine (ex_r2 w.heap.size w _ H4.out).mono ?_); rintro e w5 ⟨rfl, hb5⟩; have H5 := Lib.hid (H4.out.next hb5); clear hb5))
    all_goals (go_wp2_with fail; go_meet; exact ⟨rfl, H5.out⟩)
  case rest =>
    obtain ⟨rfl, hst⟩ := hcut
    have K0 := Lib.hid hst
    obtain ⟨c0, c1, c2, c3, -, -, -, hsz⟩ := hst
    go_wp2_with fail
    go_region_held3 (fun w' => w'.cell? ⟨w.heap.size, 0, none⟩ = some (.int .i64 12) ∧ w'.cell? ⟨w.heap.size, 1, none⟩ = some (.int .i64 3) ∧ w'.cell? ⟨w.heap.size, 2, none⟩ = some (.int .i64 4) ∧ w'.cell? ⟨w.heap.size, 3, none⟩ = some (.int .i64 0) ∧ w'.cell? ⟨w.heap.size + 1, 0, none⟩ = some (.int .i64 5) ∧ w'.cell? ⟨w.heap.size + 1, 1, none⟩ = some (.int .i64 0) ∧ w'.cell? ⟨w.heap.size + 1, 2, none⟩ = some (.int .i64 10) ∧ w'.cell? ⟨w.heap.size + 1, 3, none⟩ = some (.int .i64 1)) (first | exact K5.out.cells | exact K4.out.cells | exact K3.out.cells | exact K2.out.cells | exact K1.out.cells | exact K0.out.drew.cells)
      (first
        | (go_at_call 8; (with_reducible refine (ex_add _).mono ?_); rintro e w1 ⟨rfl, hb1⟩; have K1 := Lib.hid (K0.out.drew.next hb1); clear hb1)
        | (go_at_call 9; (with_reducible refine (ex_sub _).mono ?_); rintro e w2 ⟨rfl, hb2⟩; have K2 := Lib.hid (K1.out.next hb2); clear hb2)
        | (go_at_call 11; (with_reducible refine (ex_m1 _).mono ?_); rintro e w3 ⟨rfl, hb3⟩; have K3 := Lib.hid (K2.out.next hb3); clear hb3)
        | (go_at_call 11; (with_reducible refine (ex_m2 _).mono ?_); rintro e w4 ⟨rfl, hb4⟩; have K4 := Lib.hid (K3.out.next hb4); clear hb4)
        | (go_at_call 10; (with_reducible refine (ex_sum w.heap.size w _ K4.out).mono ?_); rintro e w5 ⟨rfl, hb5⟩; have K5 := Lib.hid (K4.out.next hb5); clear hb5))
    all_goals
      go_wp2
      go_ret
      exact ⟨rfl, K5.out.below⟩
end Go.Proofs.YtdalfkdfpeffdaaDoor
