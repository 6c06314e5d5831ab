/- Proved here: meter.Parse answers parseM of a text shorter than 2^32 - 15 bytes; where the library's tables stand (Env). -/
import Derived.Test.YtdalfkdfpeffdaaDoorME
import Derived.Lib.SplitLaws
namespace Go.Proofs.YtdalfkdfpeffdaaDoor
open Go.RowKit

/-- strconv.Atoi at whatever string. -/
theorem atoi_any (s : ByteArray) (hs : s.size ≤ 281474976710656) (w : World) (h : Env w) :
    Calls Tryd.prog 33 #[.string s] w fun e w' =>
      ((∃ v, Lib.atoiAll s.data.toList = .ok v ∧ e = .returned (.tuple #[.int .i64 v, .nilIface])) ∨
        ((∀ v, Lib.atoiAll s.data.toList ≠ .ok v) ∧ ∃ (x : Int) (tp : TypeId) (p : Value), e = .returned (.tuple #[.int .i64 x, .iface tp p]))) ∧ Below w.heap.size w w' := by
  obtain ⟨tp, p, h3⟩ := h.syn
  obtain ⟨tq, q, h4⟩ := h.rng
  rcases hr : Lib.atoiAll s.data.toList with v | _ | _
  · refine (Tryd.strconv_Atoi_ok s (by omega) v hr w).mono fun e w' ⟨he, hw⟩ => ⟨.inl ⟨v, rfl, he⟩, ?_⟩
    rcases hw with rfl | ⟨t, rfl⟩
    · exact Below.refl _ _
    · exact Lib.bytesWorld_below _ _ _
  · refine (Tryd.strconv_Atoi_syntax_var s hs hr tp p w h3).mono fun e w' ⟨N, he, _, _, hb⟩ => ⟨.inr ⟨fun v hv => (by cases hv), _, _, _, he⟩, hb⟩
  · refine (Tryd.strconv_Atoi_range_var s hs hr tq q w h4).mono fun e w' ⟨N, he, _, _, hb⟩ => ⟨.inr ⟨fun v hv => (by cases hv), _, _, _, he⟩, hb⟩

/-- The separator of a text's parts; the blank in a part. -/
def sepB : ByteArray := ⟨#[44, 32]⟩
def blkB : ByteArray := ⟨#[32]⟩
/-- The parts of a text. -/
def partsB (s : ByteArray) : List ByteArray := Lib.splitB sepB 0 (Lib.countB s sepB) s
theorem partsB_length (s : ByteArray) : (partsB s).length = Lib.countB s sepB + 1 := Lib.splitB_all sepB (by decide) 0 _ s rfl
/-- The digits of a part: what stands behind its first blank. -/
def digitsB (p : ByteArray) : ByteArray := ⟨(Lib.cut p.data.toList [32]).2.1.toArray⟩

/-- strings.Split at ", ". -/
theorem split_any (s : ByteArray) (w : World) (hs : s.size < 4294967281) (h : Env w) :
    Calls Tryd.prog 31 #[.string s, .string ⟨#[44, 32]⟩] w fun e w' =>
      e = .returned (.slice (some ⟨w.heap.size, 0, none⟩) (partsB s).length (partsB s).length) ∧ w' = w.alloc (.cells ((partsB s).map Value.string).toArray 9) := by
  obtain ⟨m, hm⟩ := h.max
  refine (Tryd.strings_Split s sepB m w hs hm (by decide)).mono fun e w' ⟨he, hw⟩ => ⟨?_, hw⟩
  rw [partsB_length]; exact he

/-- strings.Cut at a blank. -/
theorem cut_any (s : ByteArray) (w : World) (hs : s.size < 4294967281) (h : Env w) :
    Calls Tryd.prog 32 #[.string s, .string ⟨#[32]⟩] w fun e w' =>
      (∃ a b, e = .returned (.tuple #[.string a, .string (digitsB s), .bool b])) ∧ Below w.heap.size w w' := by
  obtain ⟨m, hm⟩ := h.max
  refine (Tryd.strings_Cut s blkB m w hs hm).mono fun e w' ⟨he, n, hw⟩ => ⟨⟨_, _, he⟩, ?_⟩
  rw [hw]; exact ⟨rfl, rfl, rfl, Nat.le_refl _, fun _ _ => rfl⟩

/-- Two places of four zeros, and something behind them. -/
theorem SumSt.start (w : World) (o : Obj) : SumSt w.heap.size C4.zero w (((w.alloc (.cells #[.int .i64 0, .int .i64 0, .int .i64 0, .int .i64 0] 26)).alloc (.cells #[.int .i64 0, .int .i64 0, .int .i64 0, .int .i64 0] 26)).alloc o) := by
  constructor
  all_goals first | (simp [go_sem, C4.zero]; done) | skip
  exact (((Below.refl _ w).alloc (Nat.le_refl _) _).alloc (by simp) _).alloc (by simp; omega) _

set_option maxRecDepth 100000 in
set_option maxHeartbeats 1000000 in
theorem parse_count (s : ByteArray) (w : World) (hs : s.size < 4294967281) (he : Env w) (hn : (partsB s).length ≠ 4) :
    Calls Tryd.prog 25 #[.string s] w fun e w' =>
      e = .returned (.tuple #[.agg #[.int .i64 0, .int .i64 0, .int .i64 0, .int .i64 0], .int .i64 3]) ∧ Below w.heap.size w w' := by
  have HE := Lib.hid he
  have HN := Lib.hid hn
  have hnb : (((partsB s).length : Int) != 4) = true := by rw [bne_iff_ne]; omega
  clear he hn
  generalize hps : partsB s = ps at *
  go_enter Tryd.func25, Tryd.ntmps25
  go_wp2_with (go_at_call 31; fail)
  refine (split_any s _ hs (HE.out.next (((Below.refl _ w).alloc (Nat.le_refl _) _).alloc (by simp) _))).mono ?_
  rw [hps]
  rintro e w' ⟨rfl, rfl⟩
  clear hps
  go_wp2_with (go_at_call 22; fail)
  refine (words_any _).mono ?_
  rintro e w2 ⟨rfl, hb2⟩
  have S2 := (SumSt.start w (.cells (ps.map Value.string).toArray 9)).later hb2 (by simp) hb2.size
  clear hb2
  obtain ⟨c0, c1, c2, c3, f0, f1, f2, f3, r0, r1, r2, r3, g0, g1, g2, g3, hbl, hsz⟩ := S2
  go_wp2
  obtain ⟨q0, q1, q2, q3⟩ := set4 r0 r1 r2 r3 (.int .i64 0) (.int .i64 0) (.int .i64 0) (.int .i64 0)
  refine bodyPost_ret (v := .tuple #[.agg #[.int .i64 0, .int .i64 0, .int .i64 0, .int .i64 0], .int .i64 3]) (by simp [results, Tryd.results25, go_sem, q0, q1, q2, q3]) rfl ⟨rfl, ?_⟩
  exact (((hbl.setCell (by simp) _).setCell (by simp) _).setCell (by simp) _).setCell (by simp) _

theorem SumSt.set0 {A : Nat} {c : C4} {w wr : World} (h : SumSt A c w wr) (v : Int) : SumSt A { c with i := v } w (wr.setCell ⟨A + 1, 0, none⟩ (.int .i64 v)) := by
  obtain ⟨c0, c1, c2, c3, f0, f1, f2, f3, r0, r1, r2, r3, g0, g1, g2, g3, hbl, hs⟩ := h
  constructor
  all_goals first | (simp [go_sem, cell_set c0, c1, c2, c3, f0, f1, f2, f3, r0, r1, r2, r3, g0, g1, g2, g3]; done) | skip
  · exact hbl.setCell (by simp) _
  · simpa [World.setCell] using hs

theorem SumSt.set1 {A : Nat} {c : C4} {w wr : World} (h : SumSt A c w wr) (v : Int) : SumSt A { c with s := v } w (wr.setCell ⟨A + 1, 1, none⟩ (.int .i64 v)) := by
  obtain ⟨c0, c1, c2, c3, f0, f1, f2, f3, r0, r1, r2, r3, g0, g1, g2, g3, hbl, hs⟩ := h
  constructor
  all_goals first | (simp [go_sem, cell_set c1, c0, c2, c3, f0, f1, f2, f3, r0, r1, r2, r3, g0, g1, g2, g3]; done) | skip
  · exact hbl.setCell (by simp) _
  · simpa [World.setCell] using hs

theorem SumSt.set2 {A : Nat} {c : C4} {w wr : World} (h : SumSt A c w wr) (v : Int) : SumSt A { c with m := v } w (wr.setCell ⟨A + 1, 2, none⟩ (.int .i64 v)) := by
  obtain ⟨c0, c1, c2, c3, f0, f1, f2, f3, r0, r1, r2, r3, g0, g1, g2, g3, hbl, hs⟩ := h
  constructor
  all_goals first | (simp [go_sem, cell_set c2, c0, c1, c3, f0, f1, f2, f3, r0, r1, r2, r3, g0, g1, g2, g3]; done) | skip
  · exact hbl.setCell (by simp) _
  · simpa [World.setCell] using hs

theorem SumSt.set3 {A : Nat} {c : C4} {w wr : World} (h : SumSt A c w wr) (v : Int) : SumSt A { c with k := v } w (wr.setCell ⟨A + 1, 3, none⟩ (.int .i64 v)) := by
  obtain ⟨c0, c1, c2, c3, f0, f1, f2, f3, r0, r1, r2, r3, g0, g1, g2, g3, hbl, hs⟩ := h
  constructor
  all_goals first | (simp [go_sem, cell_set c3, c0, c1, c2, f0, f1, f2, f3, r0, r1, r2, r3, g0, g1, g2, g3]; done) | skip
  · exact hbl.setCell (by simp) _
  · simpa [World.setCell] using hs

/-- What a round of 'Parse' finds. -/
structure ParseSt (A : Nat) (c : C4) (p0 p1 p2 p3 : ByteArray) (w wr : World) : Prop where
  st : SumSt A c w wr
  p0 : wr.cell? ⟨A + 1 + 1, 0, none⟩ = some (.string p0)
  p1 : wr.cell? ⟨A + 1 + 1, 1, none⟩ = some (.string p1)
  p2 : wr.cell? ⟨A + 1 + 1, 2, none⟩ = some (.string p2)
  p3 : wr.cell? ⟨A + 1 + 1, 3, none⟩ = some (.string p3)
  env : Env wr
  size2 : A + 1 + 1 < wr.heap.size

theorem ParseSt.later {A : Nat} {c : C4} {p0 p1 p2 p3 : ByteArray} {w wr w2 : World} {B : Nat} (h : ParseSt A c p0 p1 p2 p3 w wr) (hb : Below B wr w2) (hB : A + 1 + 1 < B) (hAw : B ≤ w2.heap.size) (hA : gtop ≤ A) : ParseSt A c p0 p1 p2 p3 w w2 := by
  obtain ⟨h1, h2, h3, h4, h5, h6, h7⟩ := h
  exact ⟨h1.later hb (by omega) hAw, (hb.cell (by simp; omega)).trans h2, (hb.cell (by simp; omega)).trans h3, (hb.cell (by simp; omega)).trans h4, (hb.cell (by simp; omega)).trans h5, h6.later hb (by omega), by omega⟩

theorem ParseSt.set0 {A : Nat} {c : C4} {p0 p1 p2 p3 : ByteArray} {w wr : World} (h : ParseSt A c p0 p1 p2 p3 w wr) (hA : gtop ≤ A) (v : Int) : ParseSt A { c with i := v } p0 p1 p2 p3 w (wr.setCell ⟨A + 1, 0, none⟩ (.int .i64 v)) := by
  obtain ⟨h1, h2, h3, h4, h5, h6, h7⟩ := h
  refine ⟨h1.set0 v, by simp [go_sem, h2], by simp [go_sem, h3], by simp [go_sem, h4], by simp [go_sem, h5], h6.later (((Below.refl A wr)).setCell (by simp) _) (by omega), by simpa [World.setCell] using h7⟩

theorem ParseSt.set1 {A : Nat} {c : C4} {p0 p1 p2 p3 : ByteArray} {w wr : World} (h : ParseSt A c p0 p1 p2 p3 w wr) (hA : gtop ≤ A) (v : Int) : ParseSt A { c with s := v } p0 p1 p2 p3 w (wr.setCell ⟨A + 1, 1, none⟩ (.int .i64 v)) := by
  obtain ⟨h1, h2, h3, h4, h5, h6, h7⟩ := h
  refine ⟨h1.set1 v, by simp [go_sem, h2], by simp [go_sem, h3], by simp [go_sem, h4], by simp [go_sem, h5], h6.later (((Below.refl A wr)).setCell (by simp) _) (by omega), by simpa [World.setCell] using h7⟩

theorem ParseSt.set2 {A : Nat} {c : C4} {p0 p1 p2 p3 : ByteArray} {w wr : World} (h : ParseSt A c p0 p1 p2 p3 w wr) (hA : gtop ≤ A) (v : Int) : ParseSt A { c with m := v } p0 p1 p2 p3 w (wr.setCell ⟨A + 1, 2, none⟩ (.int .i64 v)) := by
  obtain ⟨h1, h2, h3, h4, h5, h6, h7⟩ := h
  refine ⟨h1.set2 v, by simp [go_sem, h2], by simp [go_sem, h3], by simp [go_sem, h4], by simp [go_sem, h5], h6.later (((Below.refl A wr)).setCell (by simp) _) (by omega), by simpa [World.setCell] using h7⟩

theorem ParseSt.set3 {A : Nat} {c : C4} {p0 p1 p2 p3 : ByteArray} {w wr : World} (h : ParseSt A c p0 p1 p2 p3 w wr) (hA : gtop ≤ A) (v : Int) : ParseSt A { c with k := v } p0 p1 p2 p3 w (wr.setCell ⟨A + 1, 3, none⟩ (.int .i64 v)) := by
  obtain ⟨h1, h2, h3, h4, h5, h6, h7⟩ := h
  refine ⟨h1.set3 v, by simp [go_sem, h2], by simp [go_sem, h3], by simp [go_sem, h4], by simp [go_sem, h5], h6.later (((Below.refl A wr)).setCell (by simp) _) (by omega), by simpa [World.setCell] using h7⟩

/-- A part's number. -/
def numB (p : ByteArray) : Option Int := match Lib.atoiAll (digitsB p).data.toList with | .ok v => some v | _ => none

theorem num_any (p : ByteArray) (hs : p.size ≤ 281474976710656) (w : World) (h : Env w) :
    Calls Tryd.prog 33 #[.string (digitsB p)] w fun e w' =>
      ((∃ v, numB p = some v ∧ e = .returned (.tuple #[.int .i64 v, .nilIface])) ∨
        (numB p = none ∧ ∃ (x : Int) (tp : TypeId) (p : Value), e = .returned (.tuple #[.int .i64 x, .iface tp p]))) ∧ Below w.heap.size w w' := by
  have hd : (digitsB p).size ≤ 281474976710656 := by
    have e : (digitsB p).size = (Lib.cut p.data.toList [32]).2.1.length := by simp [digitsB, ByteArray.size]
    have l : (Lib.cut p.data.toList [32]).2.1.length ≤ p.data.toList.length := by
      unfold Lib.cut; split
      · simp
      · simp
    have l2 : p.data.toList.length = p.size := Array.length_toList
    omega
  refine (atoi_any (digitsB p) hd w h).mono fun e w' ⟨hr, hb⟩ => ⟨?_, hb⟩
  unfold numB
  rcases hr with ⟨v, hv, he⟩ | ⟨hno, x, tp, q, he⟩
  · exact .inl ⟨v, by rw [hv], he⟩
  · refine .inr ⟨?_, x, tp, q, he⟩
    rcases hr : Lib.atoiAll (digitsB p).data.toList with v | _ | _
    · exact absurd hr (hno v)
    · rfl
    · rfl

theorem splitB_size (sep : ByteArray) : ∀ (k : Nat) (s : ByteArray), ∀ p ∈ Lib.splitB sep 0 k s, p.size ≤ s.size
  | 0, s => by intro p hp; simp [Lib.splitB] at hp; subst hp; exact Nat.le_refl _
  | k + 1, s => by
    intro p hp
    unfold Lib.splitB at hp
    split at hp
    · simp at hp; subst hp; exact Nat.le_refl _
    · rcases List.mem_cons.1 hp with rfl | hp
      · simp [ByteArray.size_extract]; omega
      · have := splitB_size sep k _ p hp
        simp [ByteArray.size_extract] at this
        omega

/-- The text of a cost. -/
def textB (c : C4) : ByteArray := ⟨(Lib.join ([item W0 c.i, item W1 c.s, item W2 c.m, item W3 c.k].map (·.data.toList)) [44, 32]).toArray⟩

theorem textB_any (a b c d : Int) (w : World) (he : Env w) (u0 : 0 ≤ a) (u1 : a ≤ 1099511627776) (u2 : 0 ≤ b) (u3 : b ≤ 1099511627776) (u4 : 0 ≤ c) (u5 : c ≤ 1099511627776) (u6 : 0 ≤ d) (u7 : d ≤ 1099511627776) :
    Calls Tryd.prog 12 #[.agg #[.int .i64 a, .int .i64 b, .int .i64 c, .int .i64 d]] w fun e w' => e = .returned (.string (textB ⟨a, b, c, d⟩)) ∧ Below w.heap.size w w' :=
  text_any ⟨a, b, c, d⟩ w he (by dsimp only; omega) (by dsimp only; omega) (by dsimp only; omega) (by dsimp only; omega) (by dsimp only; omega) (by dsimp only; omega) (by dsimp only; omega) (by dsimp only; omega)

/-- How a text is read. -/
def parseM (s : ByteArray) : C4 × Int :=
  match partsB s with
  | [p0, p1, p2, p3] => match numB p0, numB p1, numB p2, numB p3 with
    | some a, some b, some c, some d => if plainB a b c d = true ∧ textB ⟨a, b, c, d⟩ = s then (⟨a, b, c, d⟩, 0) else (C4.zero, 3)
    | _, _, _, _ => (C4.zero, 3)
  | _ => (C4.zero, 3)

theorem str_ne {a b : ByteArray} (h : a ≠ b) : (!a.toList == b.toList) = true := by
  rw [Bool.not_eq_true', beq_eq_false_iff_ne]
  intro e
  rw [ByteArray.toList_eq, ByteArray.toList_eq] at e
  exact h (ByteArray.ext (Array.toList_inj.mp e))

/-- What 'Parse' comes to. -/
def ParsePost (s : ByteArray) (w : World) (e : Ending) (w' : World) : Prop :=
  e = .returned (.tuple #[.agg #[.int .i64 (parseM s).1.i, .int .i64 (parseM s).1.s, .int .i64 (parseM s).1.m, .int .i64 (parseM s).1.k], .int .i64 (parseM s).2]) ∧ Below w.heap.size w w'

set_option maxRecDepth 100000 in
set_option maxHeartbeats 2000000 in
theorem parse_four (s : ByteArray) (p0 p1 p2 p3 : ByteArray) (w : World) (hs : s.size < 4294967281) (he : Env w) (hn : partsB s = [p0, p1, p2, p3]) :
    Calls Tryd.prog 25 #[.string s] w (ParsePost s w) := by
  have hz : ∀ p ∈ partsB s, p.size ≤ s.size := splitB_size sepB _ s
  rw [hn] at hz
  have z0 := hz p0 (by simp)
  have z1 := hz p1 (by simp)
  have z2 := hz p2 (by simp)
  have z3 := hz p3 (by simp)
  clear hz
  have HE := Lib.hid he
  have HN := Lib.hid hn
  clear he hn
  have j0 := ix0
  have j1 := ix1
  have j2 := ix2
  have j3 := ix3
  go_enter Tryd.func25, Tryd.ntmps25
  go_wp2_with (go_at_call 31; fail)
  refine (split_any s _ hs (HE.out.next (((Below.refl _ w).alloc (Nat.le_refl _) _).alloc (by simp) _))).mono ?_
  rw [HN.out]
  rintro e w' ⟨rfl, rfl⟩
  go_wp2_with (go_at_call 22; fail)
  refine (words_any _).mono ?_
  rintro e w2 ⟨rfl, hb2⟩
  have S2 := (SumSt.start w (.cells ([p0, p1, p2, p3].map Value.string).toArray 9)).later hb2 (by simp) hb2.size
  have P2 : Hid (ParseSt w.heap.size C4.zero p0 p1 p2 p3 w w2) := by
    refine ⟨S2, ?_, ?_, ?_, ?_, HE.out.next S2.below, ?_⟩
    · exact (hb2.cell (p := ⟨w.heap.size + 1 + 1, 0, none⟩) (by simp)).trans (by simp [go_sem])
    · exact (hb2.cell (p := ⟨w.heap.size + 1 + 1, 1, none⟩) (by simp)).trans (by simp [go_sem])
    · exact (hb2.cell (p := ⟨w.heap.size + 1 + 1, 2, none⟩) (by simp)).trans (by simp [go_sem])
    · exact (hb2.cell (p := ⟨w.heap.size + 1 + 1, 3, none⟩) (by simp)).trans (by simp [go_sem])
    · have := hb2.size; simp at this; omega
  clear hb2 S2
  go_wp2_with (go_at_call 21; refine (parts_any _ _).mono ?_; rintro e w' ⟨rfl, rfl⟩)
  go_loopw [22] (fun q wr =>
      (q = .int .i64 0 ∧ ParseSt w.heap.size C4.zero p0 p1 p2 p3 w wr)
      ∨ (q = .int .i64 1 ∧ ∃ a : Int, numB p0 = some a ∧ ParseSt w.heap.size ⟨a, 0, 0, 0⟩ p0 p1 p2 p3 w wr)
      ∨ (q = .int .i64 2 ∧ ∃ a : Int, numB p0 = some a ∧ ∃ b : Int, numB p1 = some b ∧ ParseSt w.heap.size ⟨a, b, 0, 0⟩ p0 p1 p2 p3 w wr)
      ∨ (q = .int .i64 3 ∧ ∃ a : Int, numB p0 = some a ∧ ∃ b : Int, numB p1 = some b ∧ ∃ c : Int, numB p2 = some c ∧ ParseSt w.heap.size ⟨a, b, c, 0⟩ p0 p1 p2 p3 w wr)
      ∨ (q = .int .i64 4 ∧ ∃ a : Int, numB p0 = some a ∧ ∃ b : Int, numB p1 = some b ∧ ∃ c : Int, numB p2 = some c ∧ ∃ d : Int, numB p3 = some d ∧ ParseSt w.heap.size ⟨a, b, c, d⟩ p0 p1 p2 p3 w wr)) (fun q _ => 4 - (intOf q).toNat)
  case atStart =>
    refine .inl ⟨rfl, ?_⟩
    exact P2.out.later (B := w2.heap.size) (((Below.refl _ w2).alloc (Nat.le_refl _) _).drew) P2.out.size2 (by simp) HE.out.size
  case round =>
    have HA := Lib.hid HE.out.size
    rcases hrel with ⟨rfl, h⟩ | ⟨rfl, a, ha, h⟩ | ⟨rfl, a, ha, b, hb, h⟩ | ⟨rfl, a, ha, b, hb, c, hc, h⟩ | ⟨rfl, a, ha, b, hb, c, hc, d, hd, h⟩
    · have H := Lib.hid h
      obtain ⟨hst, hp0, hp1, hp2, hp3, henv, hs2⟩ := h
      have HV := Lib.hid henv
      clear henv hst
      go_wp2_with (go_at_call 32; fail)
      refine (cut_any p0 _ (by omega) HV.out).mono ?_
      rintro e w3 ⟨⟨x, y, rfl⟩, hb3⟩
      have H3a := Lib.hid (H.out.later hb3 hs2 hb3.size HA.out)
      have hsz3 := Nat.lt_of_lt_of_le hs2 hb3.size
      clear hb3
      go_wp2_with (go_at_call 33; fail)
      refine (num_any p0 (by omega) _ H3a.out.env).mono ?_
      rintro e w4 ⟨⟨v, hv, rfl⟩ | ⟨hv, x2, tp, pp, rfl⟩, hb4⟩
      · have H3 := Lib.hid (H3a.out.later hb4 hsz3 hb4.size HA.out)
        clear hb4 hp0 hp1 hp2 hp3
        have HV2 := Lib.hid hv
        clear hv
        have S3 := H3.out.st
        obtain ⟨c0, c1, c2, c3, f0, f1, f2, f3, r0, r1, r2, r3, g0, g1, g2, g3, hbl, hsz⟩ := S3
        go_wp2
        go_roundw
        case rel => exact (.inr (.inl ⟨rfl, v, HV2.out, H3.out.set0 HA.out v⟩))
        case measure => simp [intOf]
      · have H3 := Lib.hid (H3a.out.later hb4 hsz3 hb4.size HA.out)
        clear hb4 hp0 hp1 hp2 hp3
        have HV2 := Lib.hid hv
        clear hv
        have S3 := H3.out.st
        obtain ⟨c0, c1, c2, c3, f0, f1, f2, f3, r0, r1, r2, r3, g0, g1, g2, g3, hbl, hsz⟩ := S3
        have HM : Hid (parseM s = (C4.zero, 3)) := by
          show parseM s = _
          unfold parseM
          rw [HN.out]; simp only [HV2.out]
        go_wp2
        obtain ⟨q0, q1, q2, q3⟩ := set4 r0 r1 r2 r3 (.int .i64 0) (.int .i64 0) (.int .i64 0) (.int .i64 0)
        refine bodyPost_ret (v := .tuple #[.agg #[.int .i64 0, .int .i64 0, .int .i64 0, .int .i64 0], .int .i64 3]) (by simp [results, Tryd.results25, go_sem, q0, q1, q2, q3]) rfl ⟨by rw [HM.out]; rfl, ?_⟩
        exact (((hbl.setCell (by simp) _).setCell (by simp) _).setCell (by simp) _).setCell (by simp) _
    · have H := Lib.hid h
      have N0 := Lib.hid ha
      clear ha
      obtain ⟨hst, hp0, hp1, hp2, hp3, henv, hs2⟩ := h
      have HV := Lib.hid henv
      clear henv hst
      go_wp2_with (go_at_call 32; fail)
      refine (cut_any p1 _ (by omega) HV.out).mono ?_
      rintro e w3 ⟨⟨x, y, rfl⟩, hb3⟩
      have H3a := Lib.hid (H.out.later hb3 hs2 hb3.size HA.out)
      have hsz3 := Nat.lt_of_lt_of_le hs2 hb3.size
      clear hb3
      go_wp2_with (go_at_call 33; fail)
      refine (num_any p1 (by omega) _ H3a.out.env).mono ?_
      rintro e w4 ⟨⟨v, hv, rfl⟩ | ⟨hv, x2, tp, pp, rfl⟩, hb4⟩
      · have H3 := Lib.hid (H3a.out.later hb4 hsz3 hb4.size HA.out)
        clear hb4 hp0 hp1 hp2 hp3
        have HV2 := Lib.hid hv
        clear hv
        have S3 := H3.out.st
        obtain ⟨c0, c1, c2, c3, f0, f1, f2, f3, r0, r1, r2, r3, g0, g1, g2, g3, hbl, hsz⟩ := S3
        go_wp2
        go_roundw
        case rel => exact (.inr (.inr (.inl ⟨rfl, a, N0.out, v, HV2.out, H3.out.set1 HA.out v⟩)))
        case measure => simp [intOf]
      · have H3 := Lib.hid (H3a.out.later hb4 hsz3 hb4.size HA.out)
        clear hb4 hp0 hp1 hp2 hp3
        have HV2 := Lib.hid hv
        clear hv
        have S3 := H3.out.st
        obtain ⟨c0, c1, c2, c3, f0, f1, f2, f3, r0, r1, r2, r3, g0, g1, g2, g3, hbl, hsz⟩ := S3
        have HM : Hid (parseM s = (C4.zero, 3)) := by
          show parseM s = _
          unfold parseM
          rw [HN.out]; simp only [N0.out, HV2.out]
        go_wp2
        obtain ⟨q0, q1, q2, q3⟩ := set4 r0 r1 r2 r3 (.int .i64 0) (.int .i64 0) (.int .i64 0) (.int .i64 0)
        refine bodyPost_ret (v := .tuple #[.agg #[.int .i64 0, .int .i64 0, .int .i64 0, .int .i64 0], .int .i64 3]) (by simp [results, Tryd.results25, go_sem, q0, q1, q2, q3]) rfl ⟨by rw [HM.out]; rfl, ?_⟩
        exact (((hbl.setCell (by simp) _).setCell (by simp) _).setCell (by simp) _).setCell (by simp) _
    · have H := Lib.hid h
      have N0 := Lib.hid ha
      clear ha
      have N1 := Lib.hid hb
      clear hb
      obtain ⟨hst, hp0, hp1, hp2, hp3, henv, hs2⟩ := h
      have HV := Lib.hid henv
      clear henv hst
      go_wp2_with (go_at_call 32; fail)
      refine (cut_any p2 _ (by omega) HV.out).mono ?_
      rintro e w3 ⟨⟨x, y, rfl⟩, hb3⟩
      have H3a := Lib.hid (H.out.later hb3 hs2 hb3.size HA.out)
      have hsz3 := Nat.lt_of_lt_of_le hs2 hb3.size
      clear hb3
      go_wp2_with (go_at_call 33; fail)
      refine (num_any p2 (by omega) _ H3a.out.env).mono ?_
      rintro e w4 ⟨⟨v, hv, rfl⟩ | ⟨hv, x2, tp, pp, rfl⟩, hb4⟩
      · have H3 := Lib.hid (H3a.out.later hb4 hsz3 hb4.size HA.out)
        clear hb4 hp0 hp1 hp2 hp3
        have HV2 := Lib.hid hv
        clear hv
        have S3 := H3.out.st
        obtain ⟨c0, c1, c2, c3, f0, f1, f2, f3, r0, r1, r2, r3, g0, g1, g2, g3, hbl, hsz⟩ := S3
        go_wp2
        go_roundw
        case rel => exact (.inr (.inr (.inr (.inl ⟨rfl, a, N0.out, b, N1.out, v, HV2.out, H3.out.set2 HA.out v⟩))))
        case measure => simp [intOf]
      · have H3 := Lib.hid (H3a.out.later hb4 hsz3 hb4.size HA.out)
        clear hb4 hp0 hp1 hp2 hp3
        have HV2 := Lib.hid hv
        clear hv
        have S3 := H3.out.st
        obtain ⟨c0, c1, c2, c3, f0, f1, f2, f3, r0, r1, r2, r3, g0, g1, g2, g3, hbl, hsz⟩ := S3
        have HM : Hid (parseM s = (C4.zero, 3)) := by
          show parseM s = _
          unfold parseM
          rw [HN.out]; simp only [N0.out, N1.out, HV2.out]
        go_wp2
        obtain ⟨q0, q1, q2, q3⟩ := set4 r0 r1 r2 r3 (.int .i64 0) (.int .i64 0) (.int .i64 0) (.int .i64 0)
        refine bodyPost_ret (v := .tuple #[.agg #[.int .i64 0, .int .i64 0, .int .i64 0, .int .i64 0], .int .i64 3]) (by simp [results, Tryd.results25, go_sem, q0, q1, q2, q3]) rfl ⟨by rw [HM.out]; rfl, ?_⟩
        exact (((hbl.setCell (by simp) _).setCell (by simp) _).setCell (by simp) _).setCell (by simp) _
    · have H := Lib.hid h
      have N0 := Lib.hid ha
      clear ha
      have N1 := Lib.hid hb
      clear hb
      have N2 := Lib.hid hc
      clear hc
      obtain ⟨hst, hp0, hp1, hp2, hp3, henv, hs2⟩ := h
      have HV := Lib.hid henv
      clear henv hst
      go_wp2_with (go_at_call 32; fail)
      refine (cut_any p3 _ (by omega) HV.out).mono ?_
      rintro e w3 ⟨⟨x, y, rfl⟩, hb3⟩
      have H3a := Lib.hid (H.out.later hb3 hs2 hb3.size HA.out)
      have hsz3 := Nat.lt_of_lt_of_le hs2 hb3.size
      clear hb3
      go_wp2_with (go_at_call 33; fail)
      refine (num_any p3 (by omega) _ H3a.out.env).mono ?_
      rintro e w4 ⟨⟨v, hv, rfl⟩ | ⟨hv, x2, tp, pp, rfl⟩, hb4⟩
      · have H3 := Lib.hid (H3a.out.later hb4 hsz3 hb4.size HA.out)
        clear hb4 hp0 hp1 hp2 hp3
        have HV2 := Lib.hid hv
        clear hv
        have S3 := H3.out.st
        obtain ⟨c0, c1, c2, c3, f0, f1, f2, f3, r0, r1, r2, r3, g0, g1, g2, g3, hbl, hsz⟩ := S3
        go_wp2
        go_roundw
        case rel => exact (.inr (.inr (.inr (.inr ⟨rfl, a, N0.out, b, N1.out, c, N2.out, v, HV2.out, H3.out.set3 HA.out v⟩))))
        case measure => simp [intOf]
      · have H3 := Lib.hid (H3a.out.later hb4 hsz3 hb4.size HA.out)
        clear hb4 hp0 hp1 hp2 hp3
        have HV2 := Lib.hid hv
        clear hv
        have S3 := H3.out.st
        obtain ⟨c0, c1, c2, c3, f0, f1, f2, f3, r0, r1, r2, r3, g0, g1, g2, g3, hbl, hsz⟩ := S3
        have HM : Hid (parseM s = (C4.zero, 3)) := by
          show parseM s = _
          unfold parseM
          rw [HN.out]; simp only [N0.out, N1.out, N2.out, HV2.out]
        go_wp2
        obtain ⟨q0, q1, q2, q3⟩ := set4 r0 r1 r2 r3 (.int .i64 0) (.int .i64 0) (.int .i64 0) (.int .i64 0)
        refine bodyPost_ret (v := .tuple #[.agg #[.int .i64 0, .int .i64 0, .int .i64 0, .int .i64 0], .int .i64 3]) (by simp [results, Tryd.results25, go_sem, q0, q1, q2, q3]) rfl ⟨by rw [HM.out]; rfl, ?_⟩
        exact (((hbl.setCell (by simp) _).setCell (by simp) _).setCell (by simp) _).setCell (by simp) _
    · have N0 := Lib.hid ha
      have N1 := Lib.hid hb
      have N2 := Lib.hid hc
      have N3 := Lib.hid hd
      clear ha hb hc hd
      have H := Lib.hid h
      obtain ⟨hst, hp0, hp1, hp2, hp3, henv, hs2⟩ := h
      clear henv hp0 hp1 hp2 hp3
      obtain ⟨c0, c1, c2, c3, f0, f1, f2, f3, r0, r1, r2, r3, g0, g1, g2, g3, hbl, hsz⟩ := hst
      go_wp2_with (go_at_call 34; fail)
      refine (plain_any a b c d _).mono ?_
      rintro e w3 ⟨rfl, hb3⟩
      have H3 := Lib.hid (H.out.later hb3 hs2 hb3.size HA.out)
      clear hb3 c0 c1 c2 c3 f0 f1 f2 f3 r0 r1 r2 r3 g0 g1 g2 g3 hbl hsz
      have hs3 := H3.out.size2
      have S3 := H3.out.st
      obtain ⟨c0, c1, c2, c3, f0, f1, f2, f3, r0, r1, r2, r3, g0, g1, g2, g3, hbl, hsz⟩ := S3
      by_cases hpl : plainB a b c d = true
      · have PL := Lib.hid hpl
        rw [hpl]
        clear hpl
        have bnd : (0 ≤ a ∧ a ≤ 1099511627776) ∧ (0 ≤ b ∧ b ≤ 1099511627776) ∧ (0 ≤ c ∧ c ≤ 1099511627776) ∧ (0 ≤ d ∧ d ≤ 1099511627776) := by
          have h := PL.out
          unfold plainB at h
          rw [decide_eq_true_iff] at h
          omega
        obtain ⟨⟨u0, u1⟩, ⟨u2, u3⟩, ⟨u4, u5⟩, ⟨u6, u7⟩⟩ := bnd
        go_wp2_with (go_at_call 12; fail)
        obtain ⟨T, hT⟩ : ∃ T, textB ⟨a, b, c, d⟩ = T := ⟨_, rfl⟩
        have C := textB_any a b c d _ H3.out.env u0 u1 u2 u3 u4 u5 u6 u7
        rw [hT] at C
        refine C.mono ?_
        clear C
        have HT := Lib.hid hT
        clear hT
        rintro e w4 ⟨rfl, hb4⟩
        have H4 := Lib.hid (H3.out.later hb4 hs3 hb4.size HA.out)
        clear hb4 c0 c1 c2 c3 f0 f1 f2 f3 r0 r1 r2 r3 g0 g1 g2 g3 hbl hsz
        have S4 := H4.out.st
        obtain ⟨c0, c1, c2, c3, f0, f1, f2, f3, r0, r1, r2, r3, g0, g1, g2, g3, hbl, hsz⟩ := S4
        by_cases hts : T = s
        · subst hts
          have HM : Hid (parseM T = (⟨a, b, c, d⟩, 0)) := by
            show parseM T = _
            unfold parseM
            rw [HN.out]; simp only [N0.out, N1.out, N2.out, N3.out]
            rw [if_pos ⟨PL.out, HT.out⟩]
          go_wp2
          obtain ⟨q0, q1, q2, q3⟩ := set4 r0 r1 r2 r3 (.int .i64 a) (.int .i64 b) (.int .i64 c) (.int .i64 d)
          refine bodyPost_ret (v := .tuple #[.agg #[.int .i64 a, .int .i64 b, .int .i64 c, .int .i64 d], .int .i64 0]) (by simp [results, Tryd.results25, go_sem, q0, q1, q2, q3]) rfl ⟨by rw [HM.out], ?_⟩
          exact (((hbl.setCell (by simp) _).setCell (by simp) _).setCell (by simp) _).setCell (by simp) _
        · have HM : Hid (parseM s = (C4.zero, 3)) := by
            show parseM s = _
            unfold parseM
            rw [HN.out]; simp only [N0.out, N1.out, N2.out, N3.out]
            rw [if_neg (fun h => hts (HT.out.symm.trans h.2))]
          have hne : (!T.toList == s.toList) = true := str_ne hts
          clear hts
          go_wp2
          obtain ⟨q0, q1, q2, q3⟩ := set4 r0 r1 r2 r3 (.int .i64 0) (.int .i64 0) (.int .i64 0) (.int .i64 0)
          refine bodyPost_ret (v := .tuple #[.agg #[.int .i64 0, .int .i64 0, .int .i64 0, .int .i64 0], .int .i64 3]) (by simp [results, Tryd.results25, go_sem, q0, q1, q2, q3]) rfl ⟨by rw [HM.out]; rfl, ?_⟩
          exact (((hbl.setCell (by simp) _).setCell (by simp) _).setCell (by simp) _).setCell (by simp) _
      · have HM : Hid (parseM s = (C4.zero, 3)) := by
          show parseM s = _
          unfold parseM
          rw [HN.out]; simp only [N0.out, N1.out, N2.out, N3.out]
          rw [if_neg (fun h => hpl h.1)]
        rw [show plainB a b c d = false by simpa using hpl]
        clear hpl
        go_wp2
        obtain ⟨q0, q1, q2, q3⟩ := set4 r0 r1 r2 r3 (.int .i64 0) (.int .i64 0) (.int .i64 0) (.int .i64 0)
        refine bodyPost_ret (v := .tuple #[.agg #[.int .i64 0, .int .i64 0, .int .i64 0, .int .i64 0], .int .i64 3]) (by simp [results, Tryd.results25, go_sem, q0, q1, q2, q3]) rfl ⟨by rw [HM.out]; rfl, ?_⟩
        exact (((hbl.setCell (by simp) _).setCell (by simp) _).setCell (by simp) _).setCell (by simp) _

/-- Parse, whatever the text. -/
theorem parse_any (s : ByteArray) (w : World) (hs : s.size < 4294967281) (he : Env w) : Calls Tryd.prog 25 #[.string s] w (ParsePost s w) := by
  by_cases h : (partsB s).length = 4
  · match hp : partsB s, h with
    | [p0, p1, p2, p3], _ => exact parse_four s p0 p1 p2 p3 w hs he hp
  · refine (parse_count s w hs he h).mono fun e w' ⟨h1, h2⟩ => ?_
    have HM : parseM s = (C4.zero, 3) := by
      unfold parseM
      split
      · rename_i hp; rw [hp] at h; exact absurd rfl h
      · rfl
    exact ⟨by rw [HM]; exact h1, h2⟩
end Go.Proofs.YtdalfkdfpeffdaaDoor
