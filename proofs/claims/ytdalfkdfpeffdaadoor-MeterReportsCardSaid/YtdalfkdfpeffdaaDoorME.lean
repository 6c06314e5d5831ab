/- Proved here: meter.words and meter.Text: the text of a cost is its four items, joined; where the library's tables stand (Env). -/
import Derived.Test.YtdalfkdfpeffdaaDoorMD
import Derived.Test.YtdalfkdfpeffdaaDoorShelf
import Derived.Deep.AppendLies
import Derived.Lib.ItoaLen
namespace Go.Proofs.YtdalfkdfpeffdaaDoor
open Go.RowKit

/-- Beyond the variables that the library's functions look into. -/
def gtop : Nat := 0 + 1 + 2 + 3 + 1

/-- What the library's functions ask of the world: its tables and sentinels stand. -/
structure Env (w : World) : Prop where
  tab : Lib.TabIs Tryd.prog w "internal/strconv.uint64pow10" .u64 Lib.pow10Tab
  max : ∃ m, w.cell? ⟨1, 0, none⟩ = some (.int .i64 m)
  syn : ∃ tp p, w.var? Tryd.prog "strconv.ErrSyntax" = some #[.iface tp p]
  rng : ∃ tp p, w.var? Tryd.prog "strconv.ErrRange" = some #[.iface tp p]
  size : gtop ≤ w.heap.size

theorem Env.later {w w' : World} {B : Nat} (h : Env w) (hb : Below B w w') (hB : gtop ≤ B) : Env w' := by
  obtain ⟨h1, ⟨m, h2⟩, ⟨tp, p, h3⟩, ⟨tq, q, h4⟩, h5⟩ := h
  refine ⟨var?_below (g := 0) hb (by kernel_rfl) ?_ h1, ⟨m, ?_⟩, ⟨tp, p, var?_below (g := 2) hb (by kernel_rfl) ?_ h3⟩, ⟨tq, q, var?_below (g := 3) hb (by kernel_rfl) ?_ h4⟩, Nat.le_trans h5 hb.size⟩
  · unfold gtop at hB; omega
  · exact (hb.cell (p := ⟨1, 0, none⟩) (by unfold gtop at hB; show 1 < B; omega)).trans h2
  · unfold gtop at hB; omega
  · unfold gtop at hB; omega

theorem Env.next {w w' : World} (h : Env w) (hb : Below w.heap.size w w') : Env w' := h.later hb h.size

theorem grow_below (w : World) (k : Nat) (os : Array Obj) : Below w.heap.size w (Sort.grow (w.drewN k) os) :=
  ⟨rfl, rfl, rfl, by show w.heap.size ≤ (w.heap ++ os).size; rw [Array.size_append]; omega, fun j hj => Sort.heap_grow_old (w.drewN k) os hj⟩

/-- strconv.Itoa. -/
theorem itoa_any (n : Int) (h0 : -9223372036854775808 ≤ n) (h1 : n ≤ 9223372036854775807) (w : World) (h : Env w) :
    Calls Tryd.prog 23 #[.int .i64 n] w fun e w' => e = .returned (.string ⟨(Lib.itoa n).toArray⟩) ∧ Below w.heap.size w w' :=
  (Tryd.strconv_Itoa n h0 h1 w h.tab).mono fun _ _ ⟨he, k, os, hw⟩ => ⟨he, by rw [hw]; exact grow_below w k os⟩

def W0 : ByteArray := ⟨#[105, 115, 115, 117, 101, 115]⟩
def W1 : ByteArray := ⟨#[115, 99, 97, 108, 97, 114, 115]⟩
def W2 : ByteArray := ⟨#[109, 111, 118, 101, 115]⟩
def W3 : ByteArray := ⟨#[109, 97, 115, 107, 101, 100]⟩

set_option maxHeartbeats 400000 in
theorem words_any (w : World) :
    Calls Tryd.prog 22 #[] w fun e w' =>
      e = .returned (.agg #[.string W0, .string W1, .string W2, .string W3]) ∧ Below w.heap.size w w' := by
  go_enter Tryd.func22, Tryd.ntmps22
  go_wp2
  refine bodyPost_ret (v := .agg #[.string W0, .string W1, .string W2, .string W3]) (by simp [results, Tryd.results22, go_sem, W0, W1, W2, W3]) rfl ⟨rfl, ?_⟩
  exact (Below.refl _ w).alloc (Nat.le_refl _) _

theorem wx0 (a b c d : ByteArray) (w : World) : (Instr.index 58 (.agg #[.string a, .string b, .string c, .string d]) (.int .i64 0)).run Tryd.prog w = .ok (.string a) w := by kernel_rfl
theorem wx1 (a b c d : ByteArray) (w : World) : (Instr.index 58 (.agg #[.string a, .string b, .string c, .string d]) (.int .i64 1)).run Tryd.prog w = .ok (.string b) w := by kernel_rfl
theorem wx2 (a b c d : ByteArray) (w : World) : (Instr.index 58 (.agg #[.string a, .string b, .string c, .string d]) (.int .i64 2)).run Tryd.prog w = .ok (.string c) w := by kernel_rfl
theorem wx3 (a b c d : ByteArray) (w : World) : (Instr.index 58 (.agg #[.string a, .string b, .string c, .string d]) (.int .i64 3)).run Tryd.prog w = .ok (.string d) w := by kernel_rfl

/-- What is owned stays owned. -/
theorem own_below {B : Nat} {e : TypeId} {k : Nat} {v : Value} {n : Nat} {xs : List Value} {w w' : World} (h : w.ownsRow B e k v n xs) (hb : Below w.heap.size w w') : w'.ownsRow B e k v n xs := by
  obtain ⟨h1, h2⟩ := h
  refine ⟨h1, ?_⟩
  rcases h2 with h2 | ⟨g, cap, cur, hv, hg, hh, r⟩
  · exact .inl h2
  · refine .inr ⟨g, cap, cur, hv, hg, ?_, r⟩
    rw [hb.block g (Array.getElem?_eq_some_iff.1 hh).1]; exact hh

theorem Tryd.infoStr : (Tryd.prog.info? 9).map (fun i => (i.zero, i.size, i.bytes)) = some (some (.string ⟨#[]⟩), 1, 16) := by kernel_rfl


/-- A word, a blank, a number. -/
def item (a : ByteArray) (n : Int) : ByteArray := a ++ (⟨#[32]⟩ : ByteArray) ++ ⟨(Lib.itoa n).toArray⟩

/-- What a round of 'Text' finds. -/
structure TextSt (A : Nat) (c : C4) (v : Value) (xs : List Value) (w wr : World) : Prop where
  a0 : wr.cell? ⟨A, 0, none⟩ = some (.int .i64 c.i)
  a1 : wr.cell? ⟨A, 1, none⟩ = some (.int .i64 c.s)
  a2 : wr.cell? ⟨A, 2, none⟩ = some (.int .i64 c.m)
  a3 : wr.cell? ⟨A, 3, none⟩ = some (.int .i64 c.k)
  env : Env wr
  own : wr.ownsRow (A + 1) 9 1 v xs.length xs
  below : Below A w wr
  size : A < wr.heap.size

theorem TextSt.step {A : Nat} {c : C4} {v : Value} {xs : List Value} {w wr w1 w2 w3 : World} {o : Obj} {g cap n : Nat} {ys : List Value} (h : TextSt A c v xs w wr) (hA : gtop ≤ A) (hb1 : Below wr.heap.size wr.drew w1) (hb2 : Below w1.heap.size w1 w2)
    (hn : n = ys.length) (hown : w3.ownsRow (A + 1) 9 1 (.slice (some ⟨g, 0, none⟩) n cap) n ys) (hgrow : (w2.alloc o).grownBy w3 v.ownBlock) : TextSt A c (.slice (some ⟨g, 0, none⟩) n cap) ys w w3 := by
  obtain ⟨a0, a1, a2, a3, henv, hv, hbl, hsz⟩ := h
  have e1 : wr.heap.size ≤ w1.heap.size := hb1.size
  have e2 := hb2.size
  have hB : Below (A + 1) wr w3 := by
    have h0 : Below (A + 1) wr w2 := ((((Below.refl _ wr).drew).trans (hb1.mono (by omega)))).trans (hb2.mono (by omega))
    exact (h0.alloc (by omega) o).grown hgrow (by simp; omega) (fun k hk => (hv.lt k hk).1)
  subst hn
  refine ⟨(hB.cell (by simp)).trans a0, (hB.cell (by simp)).trans a1, (hB.cell (by simp)).trans a2, (hB.cell (by simp)).trans a3, henv.later hB (by omega), hown, hbl.trans (hB.mono (by omega)), ?_⟩
  have := hB.size; omega

theorem item_len (a : ByteArray) (ha : a.size ≤ 7) (n : Int) (h0 : -9223372036854775808 ≤ n) (h1 : n ≤ 9223372036854775807) : (item a n).data.toList.length ≤ 29 := by
  have := Lib.itoa_length_le n h0 h1
  have e : (item a n).size = a.size + 1 + (Lib.itoa n).length := by
    unfold item
    rw [ByteArray.size_append, ByteArray.size_append]; rfl
  have e2 : (item a n).data.toList.length = (item a n).size := Array.length_toList
  omega

set_option maxRecDepth 100000 in
set_option maxHeartbeats 2000000 in
theorem text_any (c : C4) (w : World) (he : Env w) (hi0 : -9223372036854775808 ≤ c.i) (hi1 : c.i ≤ 9223372036854775807) (hs0 : -9223372036854775808 ≤ c.s) (hs1 : c.s ≤ 9223372036854775807) (hm0 : -9223372036854775808 ≤ c.m) (hm1 : c.m ≤ 9223372036854775807) (hk0 : -9223372036854775808 ≤ c.k) (hk1 : c.k ≤ 9223372036854775807) :
    Calls Tryd.prog 12 #[.agg #[.int .i64 c.i, .int .i64 c.s, .int .i64 c.m, .int .i64 c.k]] w fun e w' =>
      e = .returned (.string ⟨(Lib.join ([item W0 c.i, item W1 c.s, item W2 c.m, item W3 c.k].map (·.data.toList)) [44, 32]).toArray⟩) ∧ Below w.heap.size w w' := by
  have j0 := ix0
  have j1 := ix1
  have j2 := ix2
  have j3 := ix3
  have k0 := wx0
  have k1 := wx1
  have k2 := wx2
  have k3 := wx3
  obtain ⟨i0, hi, hz0, hz1, hz2⟩ := info_parts Tryd.infoStr
  have s0 : W0.size = 6 := rfl
  have s1 : W1.size = 7 := rfl
  have s2 : W2.size = 5 := rfl
  have s3 : W3.size = 6 := rfl
  have L0 := Lib.itoa_length_le c.i hi0 hi1
  have q0 : ¬ 9223372036854775807 < 7 + (Lib.itoa c.i).length := by omega
  have L1 := Lib.itoa_length_le c.s hs0 hs1
  have q1 : ¬ 9223372036854775807 < 8 + (Lib.itoa c.s).length := by omega
  have L2 := Lib.itoa_length_le c.m hm0 hm1
  have q2 : ¬ 9223372036854775807 < 6 + (Lib.itoa c.m).length := by omega
  have L3 := Lib.itoa_length_le c.k hk0 hk1
  have q3 : ¬ 9223372036854775807 < 7 + (Lib.itoa c.k).length := by omega
  have HJ : Hid ((Lib.join ([item W0 c.i, item W1 c.s, item W2 c.m, item W3 c.k].map (·.data.toList)) [44, 32]).length ≤ 140737488355328) := by
    have b0 := item_len W0 (by decide) c.i hi0 hi1
    have b1 := item_len W1 (by decide) c.s hs0 hs1
    have b2 := item_len W2 (by decide) c.m hm0 hm1
    have b3 := item_len W3 (by decide) c.k hk0 hk1
    show _ ≤ _
    unfold Lib.join
    simp only [List.map_cons, List.map_nil, List.intercalate, List.intersperse, List.flatten_cons, List.flatten_nil, List.length_append, List.length_cons, List.length_nil]
    omega
  have HE := Lib.hid he
  clear he L0 L1 L2 L3
  go_enter Tryd.func12, Tryd.ntmps12
  go_wp2_with (go_at_call 21; refine (parts_any _ _).mono ?_; rintro e w' ⟨rfl, rfl⟩)
  go_loopw [3, 7] (fun v q wr =>
      (q = .int .i64 0 ∧ TextSt w.heap.size c v [] w wr) ∨ (q = .int .i64 1 ∧ TextSt w.heap.size c v [.string (item W0 c.i)] w wr)
      ∨ (q = .int .i64 2 ∧ TextSt w.heap.size c v [.string (item W0 c.i), .string (item W1 c.s)] w wr)
      ∨ (q = .int .i64 3 ∧ TextSt w.heap.size c v [.string (item W0 c.i), .string (item W1 c.s), .string (item W2 c.m)] w wr)
      ∨ (q = .int .i64 4 ∧ TextSt w.heap.size c v [.string (item W0 c.i), .string (item W1 c.s), .string (item W2 c.m), .string (item W3 c.k)] w wr)) (fun _ q _ => 4 - (intOf q).toNat)
  case atStart =>
    refine .inl ⟨rfl, ?_⟩
    refine ⟨by simp [go_sem], by simp [go_sem], by simp [go_sem], by simp [go_sem], HE.out.next (by repeat (first | exact Below.refl _ _ | refine below_drewN ?_ _ | refine Below.drew ?_ | refine Below.alloc ?_ (by simp <;> omega) _)), World.ownsRow_nil _ _ _ _, (by repeat (first | exact Below.refl _ _ | refine below_drewN ?_ _ | refine Below.drew ?_ | refine Below.alloc ?_ (by simp <;> omega) _)), by simp; omega⟩
  case round =>
    have HA := Lib.hid HE.out.size
    rcases hrel with ⟨rfl, h⟩ | ⟨rfl, h⟩ | ⟨rfl, h⟩ | ⟨rfl, h⟩ | ⟨rfl, h⟩
    · have H := Lib.hid h
      obtain ⟨a0, a1, a2, a3, henv, hown, hbl, hsz⟩ := h
      have HV := Lib.hid henv
      clear henv
      go_wp2_with fail
      go_region_law (first
        | (go_simp; go_at_call 22; refine (words_any _).mono ?_; rintro e w1 ⟨rfl, hb1⟩; have a0' := (hb1.cell (p := ⟨w.heap.size, 0, none⟩) (by simp; omega)).trans a0)
        | (go_simp; go_at_call 23; refine (itoa_any _ (by omega) (by omega) _ (HV.out.next (((Below.refl _ _).drew).trans hb1))).mono ?_; rintro e w2 ⟨rfl, hb2⟩)
        | (refine step_append_lies _ rfl _ _ 41 rfl (w.heap.size + 1) 9 i0 (.string ⟨#[]⟩) 1 16 Tryd.underlying41 hi hz0 hz1 hz2 rfl (by decide) _ _ _ rfl (own_below hown (((((Below.refl _ _).drew).trans hb1).trans (hb2.mono hb1.size)).alloc (Nat.le_trans hb1.size hb2.size) _)) ⟨w2.heap.size, 0, none⟩ 1 1 [.string (item W0 c.i)] rfl rfl (cell_one_new _ _ _) (by simp [Value.oneCell']) (by decide) (by simp [maxLen]) (by simp) (Nat.le_trans hsz (Nat.le_trans hb1.size (Nat.le_trans hb2.size (by simp)))) (w2.heap.size + 1) (by simp) ?_; intro g cap w3 hown3 hgrow hg3 hlt3))
      all_goals
        go_wp2_with fail
        go_roundw
        case rel => exact (.inr (.inl ⟨rfl, H.out.step HA.out hb1 hb2 rfl hown3 hgrow⟩))
        case measure => simp [intOf]
    · have H := Lib.hid h
      obtain ⟨a0, a1, a2, a3, henv, hown, hbl, hsz⟩ := h
      have HV := Lib.hid henv
      clear henv
      go_wp2_with fail
      go_region_law (first
        | (go_simp; go_at_call 22; refine (words_any _).mono ?_; rintro e w1 ⟨rfl, hb1⟩; have a1' := (hb1.cell (p := ⟨w.heap.size, 1, none⟩) (by simp; omega)).trans a1)
        | (go_simp; go_at_call 23; refine (itoa_any _ (by omega) (by omega) _ (HV.out.next (((Below.refl _ _).drew).trans hb1))).mono ?_; rintro e w2 ⟨rfl, hb2⟩)
        | (refine step_append_lies _ rfl _ _ 41 rfl (w.heap.size + 1) 9 i0 (.string ⟨#[]⟩) 1 16 Tryd.underlying41 hi hz0 hz1 hz2 rfl (by decide) _ _ _ rfl (own_below hown (((((Below.refl _ _).drew).trans hb1).trans (hb2.mono hb1.size)).alloc (Nat.le_trans hb1.size hb2.size) _)) ⟨w2.heap.size, 0, none⟩ 1 1 [.string (item W1 c.s)] rfl rfl (cell_one_new _ _ _) (by simp [Value.oneCell']) (by decide) (by simp [maxLen]) (by simp) (Nat.le_trans hsz (Nat.le_trans hb1.size (Nat.le_trans hb2.size (by simp)))) (w2.heap.size + 1) (by simp) ?_; intro g cap w3 hown3 hgrow hg3 hlt3))
      all_goals
        go_wp2_with fail
        go_roundw
        case rel => exact (.inr (.inr (.inl ⟨rfl, H.out.step HA.out hb1 hb2 rfl hown3 hgrow⟩)))
        case measure => simp [intOf]
    · have H := Lib.hid h
      obtain ⟨a0, a1, a2, a3, henv, hown, hbl, hsz⟩ := h
      have HV := Lib.hid henv
      clear henv
      go_wp2_with fail
      go_region_law (first
        | (go_simp; go_at_call 22; refine (words_any _).mono ?_; rintro e w1 ⟨rfl, hb1⟩; have a2' := (hb1.cell (p := ⟨w.heap.size, 2, none⟩) (by simp; omega)).trans a2)
        | (go_simp; go_at_call 23; refine (itoa_any _ (by omega) (by omega) _ (HV.out.next (((Below.refl _ _).drew).trans hb1))).mono ?_; rintro e w2 ⟨rfl, hb2⟩)
        | (refine step_append_lies _ rfl _ _ 41 rfl (w.heap.size + 1) 9 i0 (.string ⟨#[]⟩) 1 16 Tryd.underlying41 hi hz0 hz1 hz2 rfl (by decide) _ _ _ rfl (own_below hown (((((Below.refl _ _).drew).trans hb1).trans (hb2.mono hb1.size)).alloc (Nat.le_trans hb1.size hb2.size) _)) ⟨w2.heap.size, 0, none⟩ 1 1 [.string (item W2 c.m)] rfl rfl (cell_one_new _ _ _) (by simp [Value.oneCell']) (by decide) (by simp [maxLen]) (by simp) (Nat.le_trans hsz (Nat.le_trans hb1.size (Nat.le_trans hb2.size (by simp)))) (w2.heap.size + 1) (by simp) ?_; intro g cap w3 hown3 hgrow hg3 hlt3))
      all_goals
        go_wp2_with fail
        go_roundw
        case rel => exact (.inr (.inr (.inr (.inl ⟨rfl, H.out.step HA.out hb1 hb2 rfl hown3 hgrow⟩))))
        case measure => simp [intOf]
    · have H := Lib.hid h
      obtain ⟨a0, a1, a2, a3, henv, hown, hbl, hsz⟩ := h
      have HV := Lib.hid henv
      clear henv
      go_wp2_with fail
      go_region_law (first
        | (go_simp; go_at_call 22; refine (words_any _).mono ?_; rintro e w1 ⟨rfl, hb1⟩; have a3' := (hb1.cell (p := ⟨w.heap.size, 3, none⟩) (by simp; omega)).trans a3)
        | (go_simp; go_at_call 23; refine (itoa_any _ (by omega) (by omega) _ (HV.out.next (((Below.refl _ _).drew).trans hb1))).mono ?_; rintro e w2 ⟨rfl, hb2⟩)
        | (refine step_append_lies _ rfl _ _ 41 rfl (w.heap.size + 1) 9 i0 (.string ⟨#[]⟩) 1 16 Tryd.underlying41 hi hz0 hz1 hz2 rfl (by decide) _ _ _ rfl (own_below hown (((((Below.refl _ _).drew).trans hb1).trans (hb2.mono hb1.size)).alloc (Nat.le_trans hb1.size hb2.size) _)) ⟨w2.heap.size, 0, none⟩ 1 1 [.string (item W3 c.k)] rfl rfl (cell_one_new _ _ _) (by simp [Value.oneCell']) (by decide) (by simp [maxLen]) (by simp) (Nat.le_trans hsz (Nat.le_trans hb1.size (Nat.le_trans hb2.size (by simp)))) (w2.heap.size + 1) (by simp) ?_; intro g cap w3 hown3 hgrow hg3 hlt3))
      all_goals
        go_wp2_with fail
        go_roundw
        case rel => exact (.inr (.inr (.inr (.inr ⟨rfl, H.out.step HA.out hb1 hb2 rfl hown3 hgrow⟩))))
        case measure => simp [intOf]
    · obtain ⟨a0, a1, a2, a3, henv, hown, hbl, hsz⟩ := h
      obtain ⟨hl, h | ⟨g, cap, cur, rfl, hg, hh, hcap, hmx, hcs, htk⟩⟩ := hown
      · exact absurd h.2 (by simp)
      · have HC : Hid (∀ (j : Nat) x, [item W0 c.i, item W1 c.s, item W2 c.m, item W3 c.k][j]? = some x → wr.cell? ⟨g, 0 + j, none⟩ = some (.string x)) := by
          intro j x hx
          have hc := congrArg (fun l : List Value => l[j]?) htk
          have hj : j < 4 := by
            have := (List.getElem?_eq_some_iff.1 hx).1
            simpa using this
          have hm : ([Value.string (item W0 c.i), Value.string (item W1 c.s), Value.string (item W2 c.m), Value.string (item W3 c.k)] : List Value)[j]? = some (.string x) := by
            have : ([Value.string (item W0 c.i), Value.string (item W1 c.s), Value.string (item W2 c.m), Value.string (item W3 c.k)] : List Value) = [item W0 c.i, item W1 c.s, item W2 c.m, item W3 c.k].map Value.string := rfl
            rw [this, List.getElem?_map, hx]; rfl
          simp only [hm] at hc
          rw [List.getElem?_take_of_lt (by simpa using hj)] at hc
          rw [cell_of_row wr g (0 + j) cur 9 _ hh, Nat.zero_add]
          simpa using hc
        have hgl : g < wr.heap.size := (Array.getElem?_eq_some_iff.1 hh).1
        clear htk hcs hl hh henv
        go_wp2_with fail
        refine (Tryd.strings_Join g 0 cap [item W0 c.i, item W1 c.s, item W2 c.m, item W3 c.k] ⟨#[44, 32]⟩ _ HC.out hgl (by simp) hcap HJ.out).mono ?_
        rintro e w2 ⟨rfl, hb2⟩
        go_wp2
        go_ret
        exact ⟨rfl, hbl.trans (hb2.mono (by omega))⟩
end Go.Proofs.YtdalfkdfpeffdaaDoor
