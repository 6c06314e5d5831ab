/- Proved here: meter.Report answers reportM of names and costs; where they lie in memory and the library's tables stand (Env). -/
import Derived.Test.YtdalfkdfpeffdaaDoorMV
import Derived.RangeFuncNested
import Derived.RangeFuncBound
import Derived.RangeFuncCalls
import Derived.RangeFuncLeaves
import Derived.OwnWalkIn
import Derived.TacticsInMore
import Derived.LoopNIn
import Derived.LoopIn
namespace Go.Proofs.YtdalfkdfpeffdaaDoor
open Go.RowKit
attribute [local go_sem] Oper.semAt_some

theorem own_le {w : World} {B B' k n : Nat} {e : TypeId} {v : Value} {xs : List Value} (h : w.ownsRow B e k v n xs) (hb : B' ≤ B) : w.ownsRow B' e k v n xs := by
  obtain ⟨h1, h2⟩ := h
  refine ⟨h1, ?_⟩
  rcases h2 with h2 | ⟨g, cap, cur, hv, hg, r⟩
  · exact .inl h2
  · exact .inr ⟨g, cap, cur, hv, Nat.le_trans hb hg, r⟩

/-- A row of words that lies in memory. -/
def RowIs (v : Value) (row : List ByteArray) (w : World) : Prop :=
  ∃ g cap, v = .slice (some ⟨g, 0, none⟩) row.length cap ∧ w.ownsRow 0 9 1 v row.length (row.map Value.string)

theorem RowIs.next {v : Value} {row : List ByteArray} {w w' : World} (h : RowIs v row w) (hb : Below w.heap.size w w') : RowIs v row w' := by
  obtain ⟨g, cap, e, h⟩ := h
  exact ⟨g, cap, e, own_below h hb⟩

/-- A table's rows. -/
def RowsAre (vs : List Value) (rows : List (List ByteArray)) (w : World) : Prop :=
  vs.length = rows.length ∧ ∀ (i : Nat) v row, vs[i]? = some v → rows[i]? = some row → RowIs v row w

/-- Names that lie in memory. -/
def StrsAt (a : Option Addr) (ns : List ByteArray) (w : World) : Prop :=
  ns = [] ∨ ∃ b off, a = some ⟨b, off, none⟩ ∧ b < w.heap.size ∧ ∀ (i : Nat) s, ns[i]? = some s → w.cell? ⟨b, off + i, none⟩ = some (.string s)
/-- Costs that lie in memory. -/
def CostsAt (a : Option Addr) (cs : List C4) (w : World) : Prop :=
  cs = [] ∨ ∃ b off, a = some ⟨b, off, none⟩ ∧ b < w.heap.size ∧ Costs w b off cs

theorem CostsAt.below {a : Option Addr} {cs : List C4} {w w' : World} (h : CostsAt a cs w) (hb : Below w.heap.size w w') : CostsAt a cs w' := by
  rcases h with h | ⟨b, off, e, hl, hc⟩
  · exact .inl h
  · exact .inr ⟨b, off, e, Nat.lt_of_lt_of_le hl hb.size, hc.below hb hl⟩

theorem sum_any (a : Option Addr) (cs : List C4) (cap : Nat) (w : World) (hl : cs.length ≤ 4398046511104) (h : CostsAt a cs w) :
    Calls Tryd.prog 10 #[.slice a cs.length cap] w fun e w' =>
      e = .returned (.agg #[.int .i64 (sumC cs).i, .int .i64 (sumC cs).s, .int .i64 (sumC cs).m, .int .i64 (sumC cs).k]) ∧ Below w.heap.size w w' := by
  rcases h with rfl | ⟨b, off, rfl, hb, hc⟩
  · exact sum_none a cap w
  · exact sum_some cs b off cap w hl hb hc

/-- A report's refusal. -/
def RefusePost (n : Int) (w : World) (e : Ending) (w' : World) : Prop := e = .returned (.tuple #[.string ⟨#[]⟩, .int .i64 n]) ∧ Below w.heap.size w w'

set_option maxRecDepth 100000 in
set_option maxHeartbeats 1000000 in
theorem report_count (a1 a2 : Option Addr) (n1 c1 n2 c2 : Nat) (w : World) (h1 : n1 ≤ 140737488355328) (h2 : n2 ≤ 140737488355328) (h : n1 ≠ n2 ∨ 1000 < n2) :
    Calls Tryd.prog 26 #[.slice a1 n1 c1, .slice a2 n2 c2] w (RefusePost 1 w) := by
  rcases (show (n1 ≠ n2) ∨ (n1 = n2 ∧ 1000 < n2) by omega) with h | ⟨rfl, h⟩
  · have hb : ((n1 : Int) != n2) = true := by rw [bne_iff_ne]; omega
    clear h
    go_enter Tryd.func26, Tryd.ntmps26
    go_wp2
    go_ret2
    exact ⟨rfl, Below.refl _ _⟩
  · go_enter Tryd.func26, Tryd.ntmps26
    go_wp2
    go_ret2
    exact ⟨rfl, Below.refl _ _⟩

/-- The numbers of a cost are ints. -/
def C4.Fits (c : C4) : Prop := (-9223372036854775808 ≤ c.i ∧ c.i ≤ 9223372036854775807) ∧ (-9223372036854775808 ≤ c.s ∧ c.s ≤ 9223372036854775807) ∧ (-9223372036854775808 ≤ c.m ∧ c.m ≤ 9223372036854775807) ∧ (-9223372036854775808 ≤ c.k ∧ c.k ≤ 9223372036854775807)

/-- The head line's words. -/
def headB : List ByteArray := [⟨#[110, 97, 109, 101]⟩, W0, W1, W2, W3]
/-- The i-th line may stand. -/
def goodB (n : ByteArray) (c : C4) : Bool := namedB n && plainB c.i c.s c.m c.k

/-- The table as it grows. -/
structure TabSt (A : Nat) (v : Value) (rows : List (List ByteArray)) (w wr : World) : Prop where
  own : ∃ vs, wr.ownsRow A 41 1 v rows.length vs ∧ RowsAre vs rows wr
  env : Env wr
  below : Below A w wr

theorem RowIs.kept {v u : Value} {row : List ByteArray} {w w' : World} {A n : Nat} {vs : List Value} (h : RowIs v row w) (ht : w.ownsRow A 41 1 u n vs) (hg : w.grownBy w' u.ownBlock) : RowIs v row w' := by
  obtain ⟨g, cap, e, h⟩ := h
  refine ⟨g, cap, e, h.kept hg (.inr ?_)⟩
  intro e2
  rcases h.2 with ⟨e3, _⟩ | ⟨g2, cap2, cur, e3, _, hh, _⟩
  · rw [e] at e3; cases e3
  · exact Lib.ownBlock_ne ht hh (by decide) (by rw [← e2, e3]; rfl)

theorem TabSt.push {A : Nat} {v v' u : Value} {rows : List (List ByteArray)} {row : List ByteArray} {w wr w2 w3 : World} {o : Obj} {vs : List Value} {n : Nat}
    (hown : wr.ownsRow A 41 1 v rows.length vs) (hrows : RowsAre vs rows wr) (henv : Env wr) (hbl : Below A w wr) (hA : gtop ≤ A) (hAw : A ≤ wr.heap.size)
    (hb : Below wr.heap.size wr w2) (hu : RowIs u row w2) (hn : n = rows.length + 1) (hown3 : w3.ownsRow A 41 1 v' n (vs ++ [u])) (hg : (w2.alloc o).grownBy w3 v.ownBlock) :
    TabSt A v' (rows ++ [row]) w w3 := by
  have h2 : w2.ownsRow A 41 1 v rows.length vs := own_below hown hb
  have h2a : (w2.alloc o).ownsRow A 41 1 v rows.length vs := own_below h2 ((Below.refl _ w2).alloc (Nat.le_refl _) o)
  have hB : Below A wr w3 := ((hb.mono hAw).alloc (Nat.le_trans hAw hb.size) o).grown hg (by have := hb.size; simp; omega) (fun k hk => (h2.lt k hk).1)
  refine ⟨⟨vs ++ [u], by rw [List.length_append]; subst hn; exact hown3, ?_, ?_⟩, henv.later hB hA, hbl.trans hB⟩
  · rw [List.length_append, List.length_append, hrows.1]; rfl
  · intro i x r hx hr
    have hAl := (Below.refl _ w2).alloc (Nat.le_refl _) o
    by_cases hi : i < rows.length
    · rw [List.getElem?_append_left (by rw [hrows.1]; exact hi)] at hx
      rw [List.getElem?_append_left hi] at hr
      exact (((hrows.2 i x r hx hr).next hb).next hAl).kept h2a hg
    · have hl := (List.getElem?_eq_some_iff.1 hr).1
      have hi2 : i = rows.length := by simp at hl; omega
      subst hi2
      rw [List.getElem?_append_right (by rw [hrows.1]; exact Nat.le_refl _), hrows.1, Nat.sub_self] at hx
      rw [List.getElem?_append_right (Nat.le_refl _), Nat.sub_self] at hr
      simp at hx hr
      subst hx; subst hr
      exact (hu.next hAl).kept h2a hg

theorem cap_bounds (n o : Nat) (e : TypeId) (t : Nat) (hn : n ≤ 4611686018427387904) : n ≤ (Question.appendCap n o e).cut t ∧ (Question.appendCap n o e).cut t ≤ maxLen := by
  show n ≤ n + t % (2 ^ 63 - n) ∧ n + t % (2 ^ 63 - n) ≤ maxLen
  have := Nat.mod_lt t (show 0 < 2 ^ 63 - n by omega)
  unfold maxLen
  omega

theorem box_cells {w w' : World} {n : Nat} {v0 v1 v2 v3 : Value} {T : TypeId} (hn : n = w.heap.size) (hb : Below (w.alloc (.cells #[v0, v1, v2, v3] T)).heap.size (w.alloc (.cells #[v0, v1, v2, v3] T)) w') :
    w'.cell? ⟨n, 0, none⟩ = some v0 ∧ w'.cell? ⟨n, 1, none⟩ = some v1 ∧ w'.cell? ⟨n, 2, none⟩ = some v2 ∧ w'.cell? ⟨n, 3, none⟩ = some v3 := by
  subst hn
  refine ⟨?_, ?_, ?_, ?_⟩
  · exact (hb.cell (p := ⟨w.heap.size, 0, none⟩) (by simp)).trans (by simp)
  · exact (hb.cell (p := ⟨w.heap.size, 1, none⟩) (by simp)).trans (by simp)
  · exact (hb.cell (p := ⟨w.heap.size, 2, none⟩) (by simp)).trans (by simp)
  · exact (hb.cell (p := ⟨w.heap.size, 3, none⟩) (by simp)).trans (by simp)

theorem fits_of_plain {c : C4} (h : plainB c.i c.s c.m c.k = true) : C4.Fits c := by
  unfold plainB at h
  rw [decide_eq_true_iff] at h
  unfold C4.Fits
  omega

/-- The lines that have come. -/
def rowsB (ns : List ByteArray) (cs : List C4) (k : Nat) : List (List ByteArray) := headB :: ((List.range k).map fun i => rowB (ns.getD i ByteArray.empty) (cs.getD i C4.zero))
theorem rowsB_succ (ns : List ByteArray) (cs : List C4) (k : Nat) : rowsB ns cs (k + 1) = rowsB ns cs k ++ [rowB (ns.getD k ByteArray.empty) (cs.getD k C4.zero)] := by
  unfold rowsB; rw [List.range_succ, List.map_append]; rfl
theorem rowsB_length (ns : List ByteArray) (cs : List C4) (k : Nat) : (rowsB ns cs k).length = k + 1 := by simp [rowsB]

theorem Tryd.infoRow : (Tryd.prog.info? 41).map (fun i => (i.zero, i.size, i.bytes)) = some (some (.slice none 0 0), 1, 24) := by kernel_rfl

/-- The widths of the columns, behind one line more. -/
def widen (ws : List Nat) (row : List ByteArray) : List Nat := (List.range 5).map fun j => max (ws.getD j 0) (row.getD j ByteArray.empty).size
def widths (rows : List (List ByteArray)) : List Nat := rows.foldl widen [0, 0, 0, 0, 0]
/-- The text of a table. -/
def tableL (ws : List Nat) (rows : List (List ByteArray)) : List UInt8 := (rows.map fun r => (lineB ws r).data.toList).flatten
def totalB : ByteArray := ⟨#[116, 111, 116, 97, 108]⟩
/-- All lines of a report. -/
def allRows (ns : List ByteArray) (cs : List C4) : List (List ByteArray) := rowsB ns cs cs.length ++ [rowB totalB (sumC cs)]
/-- What 'Report' comes to. -/
def reportM (ns : List ByteArray) (cs : List C4) : ByteArray × Int :=
  if ns.length ≠ cs.length ∨ 1000 < cs.length then (⟨#[]⟩, 1)
  else if (List.range cs.length).all (fun i => goodB (ns.getD i ByteArray.empty) (cs.getD i C4.zero)) = false then (⟨#[]⟩, 1)
  else if plainB (sumC cs).i (sumC cs).s (sumC cs).m (sumC cs).k = false then (⟨#[]⟩, 2)
  else (⟨(tableL (widths (allRows ns cs)) (allRows ns cs)).toArray⟩, 0)
def ReportPost (ns : List ByteArray) (cs : List C4) (w : World) (e : Ending) (w' : World) : Prop :=
  e = .returned (.tuple #[.string (reportM ns cs).1, .int .i64 (reportM ns cs).2]) ∧ Below w.heap.size w w'

theorem reportM_bad {ns : List ByteArray} {cs : List C4} (h1 : ns.length = cs.length) (h2 : cs.length ≤ 1000) {k : Nat} (hk : k < cs.length) (h : goodB (ns.getD k ByteArray.empty) (cs.getD k C4.zero) = false) : reportM ns cs = (⟨#[]⟩, 1) := by
  unfold reportM
  rw [if_neg (by omega), if_pos]
  rw [List.all_eq_false]
  exact ⟨k, List.mem_range.2 hk, by rw [h]; simp⟩

theorem mk5 (w : World) : (Instr.makeSlice 82 (.int .i64 5) (.int .i64 5)).run Tryd.prog w = .ok (.slice (some ⟨w.heap.size, 0, none⟩) 5 5) (w.alloc (.cells #[.int .i64 0, .int .i64 0, .int .i64 0, .int .i64 0, .int .i64 0] 3)) := by kernel_rfl

/-- The widths, as far as they go, and the table. -/
structure WideSt (A Ba : Nat) (ws : List Nat) (v : Value) (rows : List (List ByteArray)) (w wr : World) : Prop where
  len : ws.length = 5
  arr : ∃ cur, wr.heap[Ba]? = some (.cells cur 3 (0, 0)) ∧ cur.toList = ws.map (fun (n : Nat) => Value.int .i64 n)
  box : wr.cell? ⟨Ba + 1, 0, none⟩ = some (.slice (some ⟨Ba, 0, none⟩) 5 5)
  tab : TabSt A v rows w wr
  lt : Ba + 1 < wr.heap.size
  ge : A ≤ Ba

theorem WideSt.cell {A Ba : Nat} {ws : List Nat} {v : Value} {rows : List (List ByteArray)} {w wr : World} (h : WideSt A Ba ws v rows w wr) (j : Nat) (hj : j < 5) :
    wr.cell? ⟨Ba, j, none⟩ = some (.int .i64 (ws.getD j 0 : Nat)) ∧ wr.frozen? ⟨Ba, j, none⟩ = false := by
  obtain ⟨cur, hh, hc⟩ := h.arr
  have hl := h.len
  refine ⟨?_, by simp [World.frozen?, hh]⟩
  have e1 : wr.cell? ⟨Ba, j, none⟩ = cur[j]? := by simp [World.cell?, hh]
  rw [e1, ← Array.getElem?_toList, hc, List.getElem?_map, List.getElem?_eq_getElem (by omega)]
  simp [List.getD, List.getElem?_eq_getElem (show j < ws.length by omega)]

theorem setCell_grown (w : World) (b j : Nat) (v : Value) : w.grownBy (w.setCell ⟨b, j, none⟩ v) (some b) :=
  ⟨rfl, rfl, rfl, by simp [World.setCell], fun k _ hk => Below.heap_setCell _ _ _ _ (fun e => hk (by rw [e]))⟩

theorem TabSt.setInt {A Ba j : Nat} {v u : Value} {rows : List (List ByteArray)} {w wr : World} {cur : Array Value} (h : TabSt A v rows w wr) (hA : gtop ≤ A) (hBa : A ≤ Ba) (hh : wr.heap[Ba]? = some (.cells cur 3 (0, 0))) : TabSt A v rows w (wr.setCell ⟨Ba, j, none⟩ u) := by
  obtain ⟨⟨vs, hown, hrows⟩, henv, hbl⟩ := h
  have hB : Below A wr (wr.setCell ⟨Ba, j, none⟩ u) := (Below.refl A wr).setCell (p := ⟨Ba, j, none⟩) hBa u
  refine ⟨⟨vs, hown.kept (setCell_grown wr Ba j u) (.inr (Lib.ownBlock_ne hown hh (by decide))), hrows.1, ?_⟩, henv.later hB hA, hbl.trans hB⟩
  intro i x r hx hr
  obtain ⟨g, cap, e, ho⟩ := hrows.2 i x r hx hr
  exact ⟨g, cap, e, ho.kept (setCell_grown wr Ba j u) (.inr (Lib.ownBlock_ne ho hh (by decide)))⟩

theorem WideSt.set {A Ba : Nat} {ws : List Nat} {v : Value} {rows : List (List ByteArray)} {w wr : World} (h : WideSt A Ba ws v rows w wr) (hA : gtop ≤ A) (j n : Nat) (hj : j < 5) :
    WideSt A Ba (ws.set j n) v rows w (wr.setCell ⟨Ba, j, none⟩ (.int .i64 n)) := by
  obtain ⟨hl, ⟨cur, hh, hc⟩, hb, ht, hlt, hge⟩ := h
  refine ⟨by simp [hl], ⟨cur.setIfInBounds j (.int .i64 n), ?_, ?_⟩, ?_, ht.setInt hA hge hh, by simpa [World.setCell] using hlt, hge⟩
  · simp [World.setCell, Array.getElem?_modify, hh]
  · rw [Array.toList_setIfInBounds, hc, List.map_set]
  · simp [go_sem, hb]

theorem TabSt.next {A : Nat} {v : Value} {rows : List (List ByteArray)} {w wr w2 : World} (h : TabSt A v rows w wr) (hb : Below wr.heap.size wr w2) (hAw : A ≤ wr.heap.size) : TabSt A v rows w w2 := by
  obtain ⟨⟨vs, hown, hrows⟩, henv, hbl⟩ := h
  exact ⟨⟨vs, own_below hown hb, hrows.1, fun i x r hx hr => (hrows.2 i x r hx hr).next hb⟩, henv.next hb, hbl.trans (hb.mono hAw)⟩

theorem WideSt.next {A Ba : Nat} {ws : List Nat} {v : Value} {rows : List (List ByteArray)} {w wr w2 : World} (h : WideSt A Ba ws v rows w wr) (hb : Below wr.heap.size wr w2) : WideSt A Ba ws v rows w w2 := by
  obtain ⟨hl, ⟨cur, hh, hc⟩, hbx, ht, hlt, hge⟩ := h
  exact ⟨hl, ⟨cur, by rw [hb.block Ba (by omega)]; exact hh, hc⟩, (hb.cell (p := ⟨Ba + 1, 0, none⟩) hlt).trans hbx, ht.next hb (by omega), Nat.lt_of_lt_of_le hlt hb.size, hge⟩

theorem WideSt.drew {A Ba : Nat} {ws : List Nat} {v : Value} {rows : List (List ByteArray)} {w wr : World} (h : WideSt A Ba ws v rows w wr) : WideSt A Ba ws v rows w wr.drew := h.next (Below.refl _ wr).drew

theorem WideSt.start {A : Nat} {v : Value} {rows : List (List ByteArray)} {w wr : World} (h : TabSt A v rows w wr) (hA : A ≤ wr.heap.size) :
    WideSt A wr.heap.size [0, 0, 0, 0, 0] v rows w ((wr.alloc (.cells #[.int .i64 0, .int .i64 0, .int .i64 0, .int .i64 0, .int .i64 0] 3)).alloc (.cells #[.slice (some ⟨wr.heap.size, 0, none⟩) 5 5] 82)) := by
  refine ⟨rfl, ⟨#[.int .i64 0, .int .i64 0, .int .i64 0, .int .i64 0, .int .i64 0], ?_, rfl⟩, by simp [go_sem], h.next (((Below.refl _ wr).alloc (Nat.le_refl _) _).alloc (by simp) _) hA, by simp, hA⟩
  rw [Below.heap_alloc _ _ _ (by simp)]; exact World.alloc_heap_new _ _

/-- The widths behind the first j words of a line. -/
def wpart (ws : List Nat) (row : List ByteArray) (j : Nat) : List Nat := (List.range 5).map fun i => if i < j then max (ws.getD i 0) (row.getD i ByteArray.empty).size else ws.getD i 0
theorem wpart_zero {ws : List Nat} (h : ws.length = 5) (row : List ByteArray) : wpart ws row 0 = ws := by
  match ws, h with
  | [a, b, c, d, e], _ => rfl
theorem wpart_all (ws : List Nat) (row : List ByteArray) : wpart ws row 5 = widen ws row := rfl
theorem wpart_succ (ws : List Nat) (row : List ByteArray) (j : Nat) (hj : j < 5) : wpart ws row (j + 1) = (wpart ws row j).set j (max ((wpart ws row j).getD j 0) (row.getD j ByteArray.empty).size) := by
  have : j = 0 ∨ j = 1 ∨ j = 2 ∨ j = 3 ∨ j = 4 := by omega
  rcases this with rfl | rfl | rfl | rfl | rfl <;> rfl
theorem widen_length (ws : List Nat) (row : List ByteArray) : (widen ws row).length = 5 := rfl

theorem allRows_length (ns : List ByteArray) (cs : List C4) : (allRows ns cs).length = cs.length + 1 + 1 := by simp [allRows, rowsB_length]
theorem allRows_five (ns : List ByteArray) (cs : List C4) : ∀ r ∈ allRows ns cs, r.length = 5 := by
  intro r hr
  unfold allRows rowsB at hr
  rcases List.mem_append.1 hr with hr | hr
  · rcases List.mem_cons.1 hr with rfl | hr
    · rfl
    · obtain ⟨i, _, rfl⟩ := List.mem_map.1 hr; rfl
  · simp at hr; subst hr; rfl

theorem widen_get (ws : List Nat) (row : List ByteArray) (i : Nat) (hi : i < 5) : (widen ws row).getD i 0 = max (ws.getD i 0) (row.getD i ByteArray.empty).size := by
  have : i = 0 ∨ i = 1 ∨ i = 2 ∨ i = 3 ∨ i = 4 := by omega
  rcases this with rfl | rfl | rfl | rfl | rfl <;> rfl
theorem fold_ge (i : Nat) (hi : i < 5) : ∀ (rows : List (List ByteArray)) (ws : List Nat), ws.getD i 0 ≤ (rows.foldl widen ws).getD i 0 ∧ ∀ r ∈ rows, (r.getD i ByteArray.empty).size ≤ (rows.foldl widen ws).getD i 0
  | [], ws => ⟨Nat.le_refl _, fun r hr => by cases hr⟩
  | r :: rows, ws => by
    obtain ⟨h1, h2⟩ := fold_ge i hi rows (widen ws r)
    rw [widen_get ws r i hi] at h1
    refine ⟨by simp only [List.foldl_cons]; omega, fun x hx => ?_⟩
    simp only [List.foldl_cons]
    rcases List.mem_cons.1 hx with rfl | hx
    · omega
    · exact h2 x hx
theorem fold_le (i : Nat) (hi : i < 5) (B : Nat) : ∀ (rows : List (List ByteArray)) (ws : List Nat), ws.getD i 0 ≤ B → (∀ r ∈ rows, (r.getD i ByteArray.empty).size ≤ B) → (rows.foldl widen ws).getD i 0 ≤ B
  | [], ws, h, _ => h
  | r :: rows, ws, h, hr => by
    simp only [List.foldl_cons]
    refine fold_le i hi B rows (widen ws r) ?_ (fun x hx => hr x (List.mem_cons_of_mem _ hx))
    rw [widen_get ws r i hi]
    have := hr r List.mem_cons_self
    omega
theorem fold_len : ∀ (rows : List (List ByteArray)) (ws : List Nat), ws.length = 5 → (rows.foldl widen ws).length = 5
  | [], _, h => h
  | r :: rows, ws, _ => fold_len rows (widen ws r) rfl
theorem widths_length (rows : List (List ByteArray)) : (widths rows).length = 5 := fold_len rows _ rfl

theorem tableL_len (ws : List Nat) (B : Nat) : ∀ (rows : List (List ByteArray)), (∀ r ∈ rows, r.length = 5) → (∀ r ∈ rows, ∀ i, i < 5 → ws.getD i 0 ≤ B ∧ (r.getD i ByteArray.empty).data.toList.length ≤ ws.getD i 0) → (tableL ws rows).length ≤ rows.length * (5 * (B + 2) + 1)
  | [], _, _ => by simp [tableL]
  | r :: rows, h5, h => by
    have h1 := tableL_len ws B rows (fun x hx => h5 x (List.mem_cons_of_mem _ hx)) (fun x hx => h x (List.mem_cons_of_mem _ hx))
    have h2 := preL_len ws r B r.length (fun i hi => h r List.mem_cons_self i (by rw [h5 r List.mem_cons_self] at hi; exact hi))
    rw [h5 r List.mem_cons_self] at h2
    have e : tableL ws (r :: rows) = (lineB ws r).data.toList ++ tableL ws rows := rfl
    have e2 : (lineB ws r).data.toList.length = (preL ws r 5).length + 1 := by
      unfold lineB
      rw [ByteArray.data_append, Array.toList_append, List.length_append, h5 r List.mem_cons_self]; rfl
    rw [e, List.length_append, e2, List.length_cons, Nat.succ_mul]
    omega

theorem itoa_size (n : Int) (h0 : -9223372036854775808 ≤ n) (h1 : n ≤ 9223372036854775807) : (⟨(Lib.itoa n).toArray⟩ : ByteArray).size ≤ 64 := by
  have := Lib.itoa_length_le n h0 h1
  have e : (⟨(Lib.itoa n).toArray⟩ : ByteArray).size = (Lib.itoa n).length := by simp [ByteArray.size]
  omega

theorem row_words (nm : ByteArray) (c : C4) (hn : nm.size ≤ 64) (hc : C4.Fits c) : ∀ j, j < 5 → ((rowB nm c).getD j ByteArray.empty).size ≤ 64 := by
  intro j hj
  obtain ⟨⟨a0, a1⟩, ⟨b0, b1⟩, ⟨c0, c1⟩, ⟨d0, d1⟩⟩ := hc
  have : j = 0 ∨ j = 1 ∨ j = 2 ∨ j = 3 ∨ j = 4 := by omega
  rcases this with rfl | rfl | rfl | rfl | rfl
  · exact hn
  · exact itoa_size _ a0 a1
  · exact itoa_size _ b0 b1
  · exact itoa_size _ c0 c1
  · exact itoa_size _ d0 d1

theorem allRows_words (ns : List ByteArray) (cs : List C4) (hall : (List.range cs.length).all (fun i => goodB (ns.getD i ByteArray.empty) (cs.getD i C4.zero)) = true) (hs : C4.Fits (sumC cs)) :
    ∀ r ∈ allRows ns cs, ∀ j, j < 5 → (r.getD j ByteArray.empty).size ≤ 64 := by
  intro r hr
  unfold allRows rowsB at hr
  rcases List.mem_append.1 hr with hr | hr
  · rcases List.mem_cons.1 hr with rfl | hr
    · intro j hj
      have : j = 0 ∨ j = 1 ∨ j = 2 ∨ j = 3 ∨ j = 4 := by omega
      rcases this with rfl | rfl | rfl | rfl | rfl <;> decide
    · obtain ⟨i, hi, rfl⟩ := List.mem_map.1 hr
      rw [List.all_eq_true] at hall
      have hg := hall i hi
      unfold goodB at hg
      rw [Bool.and_eq_true] at hg
      refine row_words _ _ ?_ (fits_of_plain hg.2)
      have := hg.1
      unfold namedB at this
      simp only [Bool.and_eq_true, decide_eq_true_eq] at this
      omega
  · simp at hr
    subst hr
    exact row_words _ _ (by decide) hs

theorem zeroCells_size (v : Value) (n : Nat) : (Builtin.zeroCells #[v] n).size = n := by
  simp [Builtin.zeroCells]

theorem tab_start (w w2 : World) (cp : Nat) (hcb : 5 ≤ cp ∧ cp ≤ maxLen) (henv : Env w) (hb : Below w.heap.size w w2) :
    TabSt w.heap.size (.slice (some ⟨w2.heap.size + 1 + 1 + 1, 0, none⟩) 1 1) [headB] w
      (((((w2.alloc (.cells #[.string W0, .string W1, .string W2, .string W3] 58)).alloc (.cells #[.string ⟨#[110, 97, 109, 101]⟩] 9)).alloc
        (.cells (#[.string ⟨#[110, 97, 109, 101]⟩] ++ (#[.string W0, .string W1, .string W2, .string W3] ++ Builtin.zeroCells #[.string ⟨#[]⟩] (cp - 5))) 9)).alloc
        (.cells #[.slice (some ⟨w2.heap.size + 1 + 1, 0, none⟩) 5 cp] 41)).drew) := by
  obtain ⟨X, hX⟩ : ∃ X, (w2.alloc (.cells #[.string W0, .string W1, .string W2, .string W3] 58)).alloc (.cells #[.string ⟨#[110, 97, 109, 101]⟩] 9) = X := ⟨_, rfl⟩
  have hXs : X.heap.size = w2.heap.size + 1 + 1 := by rw [← hX]; simp
  have hXb : Below w2.heap.size w2 X := by rw [← hX]; exact ((Below.refl _ w2).alloc (Nat.le_refl _) _).alloc (by simp) _
  rw [hX]
  obtain ⟨cur, hcur⟩ : ∃ c, (#[.string ⟨#[110, 97, 109, 101]⟩] ++ (#[.string W0, .string W1, .string W2, .string W3] ++ Builtin.zeroCells #[.string ⟨#[]⟩] (cp - 5)) : Array Value) = c := ⟨_, rfl⟩
  rw [hcur]
  have hcs : cur.size = cp * 1 := by
    rw [← hcur, Array.size_append, Array.size_append, zeroCells_size]
    simp; omega
  have hct : cur.toList.take (5 * 1) = headB.map Value.string := by
    rw [← hcur, Array.toList_append, Array.toList_append]
    rfl
  have hr : (X.alloc (.cells cur 9)).ownsRow 0 9 1 (.slice (some ⟨w2.heap.size + 1 + 1, 0, none⟩) 5 cp) 5 (headB.map Value.string) :=
    ⟨rfl, .inr ⟨w2.heap.size + 1 + 1, cp, cur, rfl, Nat.zero_le _, by rw [← hXs]; exact World.alloc_heap_new X _, hcb.1, hcb.2, hcs, hct⟩⟩
  have hB : Below X.heap.size X (X.alloc (.cells cur 9)) := (Below.refl _ X).alloc (Nat.le_refl _) _
  have ht : ((X.alloc (.cells cur 9)).alloc (.cells #[.slice (some ⟨w2.heap.size + 1 + 1, 0, none⟩) 5 cp] 41)).ownsRow w.heap.size 41 1 (.slice (some ⟨w2.heap.size + 1 + 1 + 1, 0, none⟩) 1 1) 1 [.slice (some ⟨w2.heap.size + 1 + 1, 0, none⟩) 5 cp] := by
    have h := World.ownsRow_lit (base := w.heap.size) (e := 41) (size := 1) (X.alloc (.cells cur 9)) #[.slice (some ⟨w2.heap.size + 1 + 1, 0, none⟩) 5 cp] 1 (by simp [hXs]; have := hb.size; omega) (by simp [maxLen]) rfl
    rw [World.size_alloc, hXs] at h
    exact h
  have hl : Below (X.alloc (.cells cur 9)).heap.size (X.alloc (.cells cur 9)) (((X.alloc (.cells cur 9)).alloc (.cells #[.slice (some ⟨w2.heap.size + 1 + 1, 0, none⟩) 5 cp] 41)).drew) := ((Below.refl _ _).alloc (Nat.le_refl _) _).drew
  have hall : Below w.heap.size w (((X.alloc (.cells cur 9)).alloc (.cells #[.slice (some ⟨w2.heap.size + 1 + 1, 0, none⟩) 5 cp] 41)).drew) :=
    (((hb.trans (hXb.mono hb.size)).trans (hB.mono (by rw [hXs]; have := hb.size; omega)))).trans (hl.mono (by simp [hXs]; have := hb.size; omega))
  refine ⟨⟨[.slice (some ⟨w2.heap.size + 1 + 1, 0, none⟩) 5 cp], own_below ht (Below.refl _ _).drew, rfl, ?_⟩, henv.next hall, hall⟩
  intro i v row hv hrw
  have hi : i = 0 := by
    have := (List.getElem?_eq_some_iff.1 hv).1
    simp at this; omega
  subst hi
  simp at hv hrw
  subst hv; subst hrw
  exact ⟨_, _, rfl, own_below hr hl⟩

/-- The i-th row's value. -/
def rowVal (vs : List Value) (i : Nat) : Value := vs.getD i .nilFunc

/-- What Report's body must come to: it returns. -/
def QM (R : Ending → World → Prop) : Exit → Act → World → Prop
  | .ret, a, w => bodyPostM Fence.wide 6 Tryd.prog Tryd.f26 R .ret a w
  | _, _, _ => False

set_option maxRecDepth 100000 in
set_option maxHeartbeats 4000000 in
theorem report_walk (a1 a2 : Option Addr) (c1 c2 : Nat) (ns : List ByteArray) (cs : List C4) (w : World) (he : Env w) (hlen : ns.length = cs.length) (h1000 : cs.length ≤ 1000)
    (hns : StrsAt a1 ns w) (hcs : CostsAt a2 cs w) (hsz : ∀ n ∈ ns, n.size ≤ 140737488355328) :
    Calls Tryd.prog 26 #[.slice a1 ns.length c1, .slice a2 cs.length c2] w (ReportPost ns cs w) := by
  obtain ⟨i0, hi, hz0, hz1, hz2⟩ := info_parts Tryd.infoStr
  obtain ⟨k0, ki, kz0, kz1, kz2⟩ := info_parts Tryd.infoRow
  have HE := Lib.hid he
  have HNS := Lib.hid hns
  have HCS := Lib.hid hcs
  have HSZ := Lib.hid hsz
  have hnb : ((ns.length : Int) != cs.length) = false := by rw [hlen]; simp
  have hlt0 : ¬ (1000 : Int) < cs.length := by omega
  have HL := Lib.hid hlen
  clear he hns hcs hsz hlen
  refine (callsIn_wide (n := 6)).1 ?_
  refine callsIn_of_wp_marks Tryd.func26 rfl trivial ?_ rfl
  simp only [Tryd.ntmps26, List.size_toArray, List.length_cons, List.length_nil, Nat.reduceAdd, Nat.reduceSub, Array.replicate_succ, Array.replicate_zero, List.push_toArray, List.append_toArray, List.nil_append, List.cons_append]
  refine wpIn_wide.2 ?_
  refine wp_mono (Q := QM (ReportPost ns cs w)) ?_ (fun e a w h => by cases e <;> first | exact h | exact h.elim)
  go_wp2_with (go_at_call 22; refine (words_any _).mono ?_; rintro e w2 ⟨rfl, hb2⟩)
  have HW2 := Lib.hid hb2
  have e2 := hb2.size
  clear hb2
  go_loopw [7, 35] (fun v q wr => ∃ k : Nat, k ≤ cs.length ∧ q = .int .i64 k ∧ (∀ i, i < k → goodB (ns.getD i ByteArray.empty) (cs.getD i C4.zero) = true) ∧ TabSt w.heap.size v (rowsB ns cs k) w wr) (fun _ q _ => cs.length - (intOf q).toNat)
  case atStart =>
    refine ⟨0, Nat.zero_le _, rfl, fun i h => absurd h (Nat.not_lt_zero i), ?_⟩
    obtain ⟨cp, hcp⟩ : ∃ cp, (Question.appendCap 5 1 9).cut (w2.tape w2.drawn (Question.appendCap 5 1 9)) = cp := ⟨_, rfl⟩
    rw [hcp]
    have hcb : 5 ≤ cp ∧ cp ≤ maxLen := by
      rw [← hcp]; exact cap_bounds 5 1 _ (w2.tape w2.drawn (Question.appendCap 5 1 9)) (by decide)
    exact tab_start w w2 cp hcb HE.out HW2.out
  case round =>
    obtain ⟨k, hk, rfl, hgood, hT⟩ := hrel
    by_cases hlt : k < cs.length
    · have HG := Lib.hid hgood
      have HT := Lib.hid hT
      have HBL := Lib.hid hT.below
      have hkn : k < ns.length := by have := HL.out; omega
      obtain ⟨b1, o1, rfl, hb1, hc1⟩ := HNS.out.resolve_left (fun e => by rw [e] at hkn; simp at hkn)
      obtain ⟨b2, o2, rfl, hb2, hc2⟩ := HCS.out.resolve_left (fun e => by rw [e] at hlt; simp at hlt)
      have hn0 := (HBL.out.cell (p := ⟨b1, o1 + k, none⟩) hb1).trans (hc1 k _ (List.getElem?_eq_getElem hkn))
      obtain ⟨d0, d1, d2, d3⟩ := (Costs.below hc2 HBL.out hb2) k _ (List.getElem?_eq_getElem hlt)
      have e3 := HBL.out.size
      have hb1' : b1 < wr.heap.size := by omega
      have HN0 := Lib.hid (HSZ.out ns[k] (List.getElem_mem hkn))
      have HG1 : Hid (ns.getD k ByteArray.empty = ns[k]) := by show _ = _; simp [hkn]
      have HG2 : Hid (cs.getD k C4.zero = cs[k]) := by show _ = _; simp [hlt]
      obtain ⟨nm, hnm⟩ : ∃ x, ns[k] = x := ⟨_, rfl⟩
      obtain ⟨c, hcc⟩ : ∃ x, cs[k] = x := ⟨_, rfl⟩
      rw [hnm] at hn0 HN0 HG1
      rw [hcc] at d0 d1 d2 d3 HG2
      clear hc1 hc2 hgood hT hnm hcc
      go_wp2_with (go_at_call 35; fail)
      refine (named_any nm HN0.out _).mono ?_
      rintro e w3 ⟨rfl, hb3⟩
      by_cases hnd : namedB nm = true
      · rw [hnd]
        have HND := Lib.hid hnd
        clear hnd
        have hbx := box_cells (w := wr) (w' := w3) (n := wr.heap.size) rfl hb3
        obtain ⟨x0, x1, x2, x3⟩ := hbx
        have HB3 : Hid (Below wr.heap.size wr w3) := ((Below.refl _ wr).alloc (Nat.le_refl _) _).trans (hb3.mono (by simp))
        have es3 : wr.heap.size < w3.heap.size := by have := hb3.size; simp at this; omega
        clear hb3 d0 d1 d2 d3
        go_wp2_with (go_at_call 34; fail)
        refine (plain_any c.i c.s c.m c.k _).mono ?_
        rintro e w4 ⟨rfl, hb4⟩
        by_cases hpl : plainB c.i c.s c.m c.k = true
        · rw [hpl]
          have HPL := Lib.hid hpl
          have hfit : C4.Fits c := fits_of_plain hpl
          clear hpl
          have y0 := (hb4.cell (p := ⟨wr.heap.size, 0, none⟩) es3).trans x0
          have y1 := (hb4.cell (p := ⟨wr.heap.size, 1, none⟩) es3).trans x1
          have y2 := (hb4.cell (p := ⟨wr.heap.size, 2, none⟩) es3).trans x2
          have y3 := (hb4.cell (p := ⟨wr.heap.size, 3, none⟩) es3).trans x3
          have HB4 : Hid (Below wr.heap.size wr w4) := HB3.out.trans (hb4.mono HB3.out.size)
          have hn4 := (HB4.out.cell (p := ⟨b1, o1 + k, none⟩) hb1').trans hn0
          have es4 : wr.heap.size < w4.heap.size := Nat.lt_of_lt_of_le es3 hb4.size
          have es5 : b1 < w4.heap.size := by omega
          clear hb4 x0 x1 x2 x3 hn0
          obtain ⟨vs, hown, hrows⟩ := HT.out.own
          have HR := Lib.hid hrows
          rw [rowsB_length] at hown
          have HO := Lib.hid hown
          clear hrows hown
          obtain ⟨⟨u0, u1⟩, ⟨u2, u3⟩, ⟨u4', u5'⟩, ⟨u6, u7'⟩⟩ := hfit
          have hAw : w.heap.size ≤ wr.heap.size := e3
          go_wp2_with fail
          go_region_law (first
            | (go_simp; go_at_call 36; refine (row_any nm c _ (HT.out.env.next (HB4.out.drew)) u0 u1 u2 u3 u4' u5' u6 u7').mono ?_; rintro e w5 ⟨⟨g, cap, rfl, hrow⟩, hb5⟩)
            | (refine step_append_lies _ rfl _ _ 79 rfl w.heap.size 41 k0 (.slice none 0 0) 1 24 Tryd.underlying79 ki kz0 kz1 kz2 rfl (by decide) _ _ _ rfl (own_below HO.out ((HB4.out.drew.trans (hb5.mono HB4.out.size)).alloc (Nat.le_trans HB4.out.size hb5.size) _)) ⟨w5.heap.size, 0, none⟩ 1 1 [.slice (some ⟨g, 0, none⟩) 5 cap] rfl rfl (cell_one_new _ _ _) (by simp [Value.oneCell']) (by decide) (by simp only [maxLen]; omega) (by omega) (Nat.le_trans hAw (Nat.le_trans HB4.out.size (Nat.le_trans hb5.size (by simp)))) (w5.heap.size + 1) (by simp) ?_; intro g2 cap2 w6 hown6 hgrow hg6 hlt6))
          all_goals
            go_wp2_with fail
            go_roundw
            case rel =>
              refine ⟨k + 1, by omega, by go_num, ?_, ?_⟩
              · intro i hi
                by_cases hik : i = k
                · subst hik; rw [HG1.out, HG2.out]; unfold goodB; rw [HND.out, HPL.out]; rfl
                · exact HG.out i (by omega)
              · rw [rowsB_succ, HG1.out, HG2.out]
                exact TabSt.push (by rw [rowsB_length]; exact HO.out) HR.out HT.out.env HT.out.below HE.out.size hAw (HB4.out.drew.trans (hb5.mono HB4.out.size)) ⟨g, cap, rfl, own_le hrow (Nat.zero_le _)⟩ (by rw [rowsB_length]) hown6 hgrow
            case measure => simp [intOf]; omega
        · rw [show plainB c.i c.s c.m c.k = false by simpa using hpl]
          have HM : Hid (reportM ns cs = (⟨#[]⟩, 1)) := reportM_bad HL.out h1000 hlt (by rw [HG1.out, HG2.out]; unfold goodB; simp [hpl])
          have HB4 : Hid (Below w.heap.size w w4) := HBL.out.trans ((HB3.out.trans (hb4.mono HB3.out.size)).mono e3)
          clear hpl hb4
          go_wp2
          exact ⟨_, results_tmp2 rfl _ _ _, by rw [HM.out]; rfl, HB4.out⟩
      · rw [show namedB nm = false by simpa using hnd]
        have HM : Hid (reportM ns cs = (⟨#[]⟩, 1)) := reportM_bad HL.out h1000 hlt (by rw [HG1.out, HG2.out]; unfold goodB; simp [hnd])
        have HB3 : Hid (Below w.heap.size w w3) := HBL.out.trans ((((Below.refl _ wr).alloc (Nat.le_refl _) _).trans (hb3.mono (by simp))).mono e3)
        clear hnd hb3
        go_wp2
        exact ⟨_, results_tmp2 rfl _ _ _, by rw [HM.out]; rfl, HB3.out⟩
    · obtain rfl : k = cs.length := by omega
      have HALL : Hid ((List.range cs.length).all (fun i => goodB (ns.getD i ByteArray.empty) (cs.getD i C4.zero)) = true) := by
        show _ = _
        rw [List.all_eq_true]
        intro i hi
        exact hgood i (List.mem_range.1 hi)
      have HT := Lib.hid hT
      have HBL := Lib.hid hT.below
      have e3 := hT.below.size
      clear hgood hT
      go_wp2_with (go_at_call 10; fail)
      refine (sum_any a2 cs c2 _ (by omega) (HCS.out.below HBL.out)).mono ?_
      rintro e w3 ⟨rfl, hb3⟩
      have HB3 := Lib.hid hb3
      clear hb3
      obtain ⟨c, hcc⟩ : ∃ c, sumC cs = c := ⟨_, rfl⟩
      rw [hcc]
      have HC := Lib.hid hcc
      clear hcc
      go_wp2_with (go_at_call 34; fail)
      refine (plain_any c.i c.s c.m c.k _).mono ?_
      rintro e w4 ⟨rfl, hb4⟩
      by_cases hpl : plainB c.i c.s c.m c.k = true
      · rw [hpl]
        have HPL := Lib.hid hpl
        have hfit : C4.Fits c := fits_of_plain hpl
        have HFIT := Lib.hid hfit
        clear hpl
        obtain ⟨x0, x1, x2, x3⟩ := box_cells (w := w3) (w' := w4) (n := w3.heap.size) rfl hb4
        have HB4 : Hid (Below wr.heap.size wr w4) := HB3.out.trans (((((Below.refl _ w3).alloc (Nat.le_refl _) _).trans (hb4.mono (by simp)))).mono HB3.out.size)
        have es4 : w3.heap.size < w4.heap.size := by have := hb4.size; simp at this; omega
        clear hb4
        obtain ⟨⟨u0, u1⟩, ⟨u2, u3⟩, ⟨u4', u5'⟩, ⟨u6, u7'⟩⟩ := hfit
        go_wp2_with (go_at_call 36; fail)
        refine (row_any totalB c _ (HT.out.env.next HB4.out) u0 u1 u2 u3 u4' u5' u6 u7').mono ?_
        rintro e w5 ⟨⟨g, cap, rfl, hrow⟩, hb5⟩
        have HW := Lib.hid hrow
        have HB5 : Hid (Below wr.heap.size wr w5) := HB4.out.trans (hb5.mono HB4.out.size)
        have e5 : wr.heap.size ≤ w5.heap.size := HB5.out.size
        clear hb5 hrow x0 x1 x2 x3
        obtain ⟨vs, hown, hrows⟩ := HT.out.own
        have HR := Lib.hid hrows
        rw [rowsB_length] at hown
        have HO := Lib.hid hown
        have hvl : vs.length = cs.length + 1 := by rw [hrows.1, rowsB_length]
        have H0 : Hid (∃ g0 cap0, vs[0]? = some (.slice (some ⟨g0, 0, none⟩) 5 cap0)) := by
          have hx : vs[0]? = some vs[0] := List.getElem?_eq_getElem (by omega)
          obtain ⟨g0, cap0, e0, _⟩ := hrows.2 0 vs[0] headB hx rfl
          exact ⟨g0, cap0, by rw [hx, e0]; rfl⟩
        obtain ⟨g0, cap0, h0⟩ := H0.out
        have H0' := Lib.hid h0
        clear hrows hown H0 h0
        have hmk := mk5
        go_wp2_with (at_builtin; refine wpList_append_lies _ rfl _ _ 79 rfl w.heap.size 41 k0 (.slice none 0 0) 1 24 Tryd.underlying79 ki kz0 kz1 kz2 rfl (by decide) _ _ _ rfl (own_below HO.out (HB5.out.alloc e5 _)) ⟨w5.heap.size, 0, none⟩ 1 1 [.slice (some ⟨g, 0, none⟩) 5 cap] rfl rfl (cell_one_new _ _ _) (by simp [Value.oneCell']) (by decide) (by simp only [maxLen]; omega) (by omega) (Nat.le_trans e3 (Nat.le_trans e5 (by simp))) (w5.heap.size + 1) (by simp) ?_; intro g2 cap2 w6 hown6 hgrow hg6 hlt6; have HT6 : Hid (TabSt w.heap.size (.slice (some ⟨g2, 0, none⟩) (cs.length + 1 + 1) cap2) (allRows ns cs) w w6) := (by unfold allRows; rw [HC.out]; exact TabSt.push (by rw [rowsB_length]; exact HO.out) HR.out HT.out.env HT.out.below HE.out.size e3 HB5.out ⟨g, cap, rfl, own_le HW.out (Nat.zero_le _)⟩ (by rw [rowsB_length]) hown6 hgrow); have hv0 := (hown6.cellAt 0 (by omega)); rw [List.getElem?_append_left (by omega), H0'.out] at hv0; clear hown6 hgrow hg6)
        have HW6 := Lib.hid (WideSt.start HT6.out (Nat.le_trans HT6.out.below.size (Nat.le_refl _)))
        have e6 : w.heap.size ≤ w6.heap.size := HT6.out.below.size
        clear hv0 HT HB3 HB4 HB5 HW HR HO
        go_loopw [78] (fun q wr => ∃ i : Nat, i ≤ cs.length + 1 + 1 ∧ q = .int .i64 i ∧ WideSt w.heap.size w6.heap.size (((allRows ns cs).take i).foldl widen [0, 0, 0, 0, 0]) (.slice (some ⟨g2, 0, none⟩) (cs.length + 1 + 1) cap2) (allRows ns cs) w wr) (fun q _ => cs.length + 1 + 1 - (intOf q).toNat)
        case atStart => exact ⟨0, Nat.zero_le _, rfl, HW6.out⟩
        case round =>
          obtain ⟨i, hi', rfl, hst⟩ := hrel
          by_cases hlt2 : i < cs.length + 1 + 1
          · have hri : i < (allRows ns cs).length := by rw [allRows_length]; exact hlt2
            obtain ⟨vs2, hown2, hrows2⟩ := hst.tab.own
            have hvi : i < vs2.length := by rw [hrows2.1]; exact hri
            rw [allRows_length] at hown2
            have hcell := hown2.cellAt i (by omega)
            obtain ⟨gr, capr, hvr, hor⟩ := hrows2.2 i _ _ (List.getElem?_eq_getElem hvi) (List.getElem?_eq_getElem hri)
            have hr5 := allRows_five ns cs _ (List.getElem_mem hri)
            obtain ⟨row, hrow⟩ : ∃ r, (allRows ns cs)[i] = r := ⟨_, rfl⟩
            rw [hrow] at hvr hor hr5
            rw [hr5] at hvr hor
            have hc1 : wr.cell? ⟨g2, i, none⟩ = some (.slice (some ⟨gr, 0, none⟩) 5 capr) := by rw [hcell, List.getElem?_eq_getElem hvi, hvr]
            have HROW := Lib.hid hrow
            rw [hvr] at hor
            have HOR := Lib.hid hor
            have HST := Lib.hid hst
            have HWS := Lib.hid hst.len
            obtain ⟨ws, hws⟩ : ∃ x, ((allRows ns cs).take i).foldl widen [0, 0, 0, 0, 0] = x := ⟨_, rfl⟩
            rw [hws] at HST HWS
            have HWE := Lib.hid hws
            have HR5 := Lib.hid hr5
            clear hcell hvr hor hrow hown2 hrows2 hst hws hr5
            go_wp2_with fail
            obtain ⟨wo, hwo⟩ : ∃ wo : World, wo = wr := ⟨_, rfl⟩
            have HW5' := Lib.hid (wpart_zero HWS.out row)
            rw [← hwo] at HST HOR ⊢
            clear hc1 hwo
            go_loopw [84] (fun q wx => ∃ j : Nat, j ≤ 5 ∧ q = .int .i64 j ∧ WideSt w.heap.size w6.heap.size (wpart ws row j) (.slice (some ⟨g2, 0, none⟩) (cs.length + 1 + 1) cap2) (allRows ns cs) w wx ∧ wx.ownsRow 0 9 1 (.slice (some ⟨gr, 0, none⟩) 5 capr) 5 (row.map Value.string)) (fun q _ => 5 - (intOf q).toNat)
            case atStart => exact ⟨0, Nat.zero_le _, rfl, by rw [HW5'.out]; exact HST.out, HOR.out⟩
            case round =>
              obtain ⟨j, hj, rfl, hst, hor⟩ := hrel
              by_cases hlt3 : j < 5
              · obtain ⟨hca, hfa⟩ := hst.cell j hlt3
                have hbx := hst.box
                have hcx := hor.cellAt j (by omega)
                have hR5 := HR5.out
                rw [List.getElem?_map, List.getElem?_eq_getElem (by rw [hR5]; exact hlt3)] at hcx
                obtain ⟨x, hxe⟩ : ∃ x, row[j]'(by rw [hR5]; exact hlt3) = x := ⟨_, rfl⟩
                rw [hxe] at hcx
                have HX : Hid (row.getD j ByteArray.empty = x) := by show _ = _; rw [← hxe]; simp [List.getD, List.getElem?_eq_getElem (show j < row.length by rw [hR5]; exact hlt3)]
                obtain ⟨n0, hn0⟩ : ∃ n, (wpart ws row j).getD j 0 = n := ⟨_, rfl⟩
                rw [hn0] at hca
                have HN0 := Lib.hid hn0
                have HS2 := Lib.hid hst
                have HO2 := Lib.hid hor
                simp only [Option.map_some] at hcx
                clear hxe hn0 hst hor hR5
                go_wp2_with fail
                go_region
                all_goals
                  go_wp2_with fail
                  go_roundw
                  case rel =>
                    refine ⟨j + 1, by omega, by go_num, ?_, ?_⟩
                    · rw [wpart_succ ws row j hlt3, HN0.out, HX.out, show (max (n0 : Int) (x.size : Int)) = ((max n0 x.size : Nat) : Int) by omega]
                      exact (HS2.out.set HE.out.size j _ hlt3).drew
                    · obtain ⟨cur, hh, _⟩ := HS2.out.arr
                      have := HO2.out.kept (setCell_grown wr w6.heap.size j (.int .i64 (max (n0 : Int) (x.size : Int)))) (.inr (Lib.ownBlock_ne HO2.out hh (by decide)))
                      exact this
                  case measure => simp [intOf]; omega
              · obtain rfl : j = 5 := by omega
                have HS2 := Lib.hid hst
                clear hst hor
                go_wp2_with fail
                go_roundw
                case rel =>
                  refine ⟨i + 1, by omega, by go_num, ?_⟩
                  rw [List.take_succ_eq_append_getElem hri, List.foldl_append, HWE.out, HROW.out]
                  exact HS2.out
                case measure => simp [intOf]; omega
          · obtain rfl : i = cs.length + 1 + 1 := by omega
            have HST := Lib.hid hst
            clear hst
            go_wp2_with (go_at_call 37; refine (values_any _ _ _ _).mono ?_; rintro e w' ⟨rfl, rfl⟩)
            obtain ⟨vs3, hown3, hrows3⟩ := HST.out.tab.own
            rw [allRows_length] at hown3
            have hl3 : vs3.length = cs.length + 1 + 1 := by rw [hrows3.1, allRows_length]
            have HV3 := Lib.hid hown3
            have HR3 := Lib.hid hrows3
            clear hown3 hrows3
            have e8 : w.heap.size ≤ wr.heap.size := HST.out.tab.below.size
            have g2lt : g2 < wr.heap.size := (HV3.out.lt g2 rfl).2
            have hcells : ∀ j, j < cs.length + 1 + 1 → wr.cell? ⟨g2, 0 + j, none⟩ = some (rowVal vs3 j) := fun j hj => by
              rw [Nat.zero_add, HV3.out.cellAt j (by omega)]
              simp [rowVal, List.getD, List.getElem?_eq_getElem (show j < vs3.length by omega)]
            have HCE := Lib.hid hcells
            clear hcells
            refine (wpIn_wide (n := 6)).1 ?_
            have hbx : Below wr.heap.size wr ((wr.alloc (.cells #[.pointer none, .slice none 0 0] 68)).alloc (.cells #[.slice (some ⟨g2, 0, none⟩) (cs.length + 1 + 1) cap2] 79)) := ((Below.refl _ wr).alloc (Nat.le_refl _) _).alloc (by simp) _
            have HBX := Lib.hid hbx
            clear hbx
            have hseq := values_stops (α := { i : Nat // i < cs.length + 1 + 1 }) (fun x => rowVal vs3 x.1) (fun j => if h : j < cs.length + 1 + 1 then ⟨j, h⟩ else ⟨0, by omega⟩) Fence.wide (6 - 1) trivial rfl (by decide) (wr.heap.size + 1) wr.heap.size g2 0 (cs.length + 1 + 1) cap2 (by omega) g2lt
              ((wr.alloc (.cells #[.pointer none, .slice none 0 0] 68)).alloc (.cells #[.slice (some ⟨g2, 0, none⟩) (cs.length + 1 + 1) cap2] 79)) (by simp) (by simp; omega) (by simp) (fun j hj => by rw [HBX.out.cell (p := ⟨g2, 0 + j, none⟩) g2lt, HCE.out j hj, dif_pos hj])
            have HSEQ := Lib.hid hseq
            clear hseq
            apply wpIn_rangeFunc_ownF (hro := rfl) (h1 := by decide) (gf := 48) (lb := #[.pointer (some ⟨wr.heap.size + 1, 0, none⟩)]) (hg := rfl) (hFg := trivial) (eg := enters_of Tryd.func48 (by kernel_rfl) rfl) (hseq := HSEQ.out) (hKt := belowK_t) (hKb := belowK_b (by simp; omega)) (hb0 := Below.refl _ _) (hps := fun _ => rfl)
              (I := fun pre W => BldF wr.heap.size (tableL (widths (allRows ns cs)) (pre.map fun x => (allRows ns cs).getD x.1 [])) W ∧ Below wr.heap.size wr W)
              (Ix := fun _ _ _ => False)
            case hI =>
              intro pre W W' row' hI hg hr
              exact ⟨hI.1.kept hg (fun r e => (hr r e).2), hI.2.grown hg hI.2.size (fun k e => by have := (hr k e).1; simp at this; omega)⟩
            case hIx => exact fun _ _ _ _ _ h _ _ => h
            case h0 => exact ⟨BldF.next (Lib.IsBuilderF.of (Lib.fresh_isBuilder 68 5 wr)) ((Below.refl _ _).alloc (Nat.le_refl _) _), HBX.out⟩
            case hassign =>
              intro l x W K hK
              gi_wp2
              exact hK
            case hbody =>
              rintro l pre ⟨x, hx⟩ W ⟨hB, hbW⟩ hpl
              have hxr : x < (allRows ns cs).length := by rw [allRows_length]; exact hx
              obtain ⟨gr, capr, hvr, hor⟩ := HR3.out.2 x _ _ (List.getElem?_eq_getElem (show x < vs3.length by omega)) (List.getElem?_eq_getElem hxr)
              have hmem := List.getElem_mem hxr
              have HRW : Hid ((allRows ns cs).getD x [] = (allRows ns cs)[x]) := by show _ = _; simp [List.getD, List.getElem?_eq_getElem hxr]
              obtain ⟨row, hrow⟩ : ∃ r, (allRows ns cs)[x] = r := ⟨_, rfl⟩
              rw [hrow] at hvr hor hmem HRW
              have hr5 := allRows_five ns cs row hmem
              rw [hvr, hr5] at hor
              have hvx : rowVal vs3 x = .slice (some ⟨gr, 0, none⟩) 5 capr := by
                have : rowVal vs3 x = vs3[x]'(by omega) := by simp [rowVal, List.getD, List.getElem?_eq_getElem (show x < vs3.length by omega)]
                rw [this, hvr, hr5]
              have hWS := HST.out.next hbW
              rw [List.take_of_length_le (by rw [allRows_length]; exact Nat.le_refl _)] at hWS
              have hbx := hWS.box
              have hge : ∀ i, i < 5 → (widths (allRows ns cs)).getD i 0 ≤ 64 ∧ (row.getD i ByteArray.empty).data.toList.length ≤ (widths (allRows ns cs)).getD i 0 := fun i hi => by
                have e : (row.getD i ByteArray.empty).data.toList.length = (row.getD i ByteArray.empty).size := Array.length_toList
                refine ⟨fold_le i hi 64 (allRows ns cs) [0, 0, 0, 0, 0] ?_ (fun r hr => allRows_words ns cs HALL.out (by rw [HC.out]; exact HFIT.out) r hr i hi), ?_⟩
                · have : i = 0 ∨ i = 1 ∨ i = 2 ∨ i = 3 ∨ i = 4 := by omega
                  rcases this with rfl | rfl | rfl | rfl | rfl <;> exact Nat.zero_le _
                · rw [e]; exact (fold_ge i hi (allRows ns cs) [0, 0, 0, 0, 0]).2 row hmem
              have CJ := joined_any w6.heap.size 5 gr capr (widths (allRows ns cs)) row 64 W (by omega) (by omega) (by rw [widths_length, hr5]) (by have := hWS.lt; omega) (Nat.lt_of_lt_of_le (hor.lt gr rfl).2 hbW.size)
                (fun i hi => by rw [widths_length] at hi; exact (hWS.cell i hi).1) (fun i hi => by
                  rw [hr5] at hi
                  rw [hbW.cell (p := ⟨gr, i, none⟩) (hor.lt gr rfl).2, hor.cellAt i (by omega), List.getElem?_map, List.getElem?_eq_getElem (by omega)]
                  simp [List.getD, List.getElem?_eq_getElem (show i < row.length by omega)]) (fun i hi => hge i (by omega))
              rw [widths_length, hr5] at CJ
              have HCJ := Lib.hid CJ
              have HB := Lib.hid hB
              have HBW := Lib.hid hbW
              have HGE := Lib.hid hge
              have HR5 := Lib.hid hr5
              clear CJ hB hbW hge hr5 hWS hor hvr hrow
              gi_wp2_with fail
              refine ⟨trivial, ?_⟩
              refine (CallsIn.inRound l (callsIn_wide.2 HCJ.out)).mono ?_
              rintro e w9 ⟨rfl, hb9⟩
              have HB9 := Lib.hid (HB.out.next hb9)
              have HK9 := Lib.hid (keepsOthers_below hb9)
              have HBW9 := Lib.hid (HBW.out.trans (hb9.mono HBW.out.size))
              have hW9 : Hid (Below wr.heap.size W w9) := hb9.mono HBW.out.size
              obtain ⟨L, hL⟩ : ∃ L, lineB (widths (allRows ns cs)) row = L := ⟨_, rfl⟩
              have hLs : L.size ≤ 1000 := by
                have h2 := preL_len (widths (allRows ns cs)) row 64 row.length (fun i hi => HGE.out i (by have := HR5.out; omega))
                have e2 : L.size = (preL (widths (allRows ns cs)) row row.length).length + 1 := by
                  rw [← hL]; unfold lineB; rw [ByteArray.size_append]; simp [ByteArray.size]
                have := HR5.out
                rw [this] at h2 e2
                omega
              have hTs : (tableL (widths (allRows ns cs)) (pre.map fun x => (allRows ns cs).getD x.1 [])).length ≤ (cs.length + 2) * 400 := by
                have h3 := tableL_len (widths (allRows ns cs)) 64 (pre.map fun x => (allRows ns cs).getD x.1 []) ?_ ?_
                · rw [List.length_map] at h3
                  refine Nat.le_trans h3 (Nat.mul_le_mul (by omega) (by omega))
                · intro r hr
                  obtain ⟨y, _, rfl⟩ := List.mem_map.1 hr
                  have hy : y.1 < (allRows ns cs).length := by rw [allRows_length]; exact y.2
                  refine allRows_five ns cs _ ?_
                  simp [List.getD, List.getElem?_eq_getElem hy]
                · intro r hr i hi
                  obtain ⟨y, _, rfl⟩ := List.mem_map.1 hr
                  have hy : y.1 < (allRows ns cs).length := by rw [allRows_length]; exact y.2
                  have hm : (allRows ns cs).getD y.1 [] ∈ allRows ns cs := by simp [List.getD, List.getElem?_eq_getElem hy]
                  refine ⟨(HGE.out i hi).1, ?_⟩
                  have e : ∀ z : ByteArray, z.data.toList.length = z.size := fun z => Array.length_toList
                  rw [e]
                  exact (fold_ge i hi (allRows ns cs) [0, 0, 0, 0, 0]).2 _ hm
              rw [hL]
              have HLL := Lib.hid hL
              clear hL hb9 hbx hvx
              gi_wp2_with fail
              refine ⟨trivial, ?_⟩
              refine (CallsIn.inRound l (callsIn_wide.2 (writeF_any wr.heap.size _ L _ HB9.out (by omega)))).mono ?_
              rintro e w10 ⟨rfl, hB10, hb10, hk10⟩
              have HF : Hid (KeepsOthers W w10 ∧ Below wr.heap.size W w10 ∧ BldF wr.heap.size (tableL (widths (allRows ns cs)) ((pre ++ [(⟨x, hx⟩ : { i : Nat // i < cs.length + 1 + 1 })]).map fun y => (allRows ns cs).getD y.1 [])) w10 ∧ Below wr.heap.size wr w10) := by
                refine ⟨HK9.out.trans hk10, hW9.out.trans hb10, ?_, HBW9.out.trans hb10⟩
                rw [List.map_append, List.map_cons, List.map_nil]
                have e : ∀ (A B : List (List ByteArray)), tableL (widths (allRows ns cs)) (A ++ B) = tableL (widths (allRows ns cs)) A ++ tableL (widths (allRows ns cs)) B := fun A B => by unfold tableL; rw [List.map_append, List.flatten_append]
                rw [e, HRW.out]
                have e2 : tableL (widths (allRows ns cs)) [row] = L.data.toList := by unfold tableL; rw [← HLL.out]; simp
                rw [e2]
                exact hB10
              clear hB10 hb10 hk10
              gi_wp2
              exact HF.out
            case hdone =>
              rintro D xs W hD rfl ⟨hB, hbW⟩ hK
              have hall : ((upto (fun j => if h : j < cs.length + 1 + 1 then (⟨j, h⟩ : { i : Nat // i < cs.length + 1 + 1 }) else ⟨0, by omega⟩) (cs.length + 1 + 1)).map fun x => (allRows ns cs).getD x.1 []) = allRows ns cs := by
                have hl := allRows_length ns cs
                apply List.ext_getElem
                · simp [upto, hl]
                · intro i h1 h2
                  have hi3 : i < cs.length + 1 + 1 := by omega
                  simp [upto, List.getD, List.getElem?_eq_getElem h2, hi3]
              rw [hall] at hB
              have HM : Hid (reportM ns cs = (⟨(tableL (widths (allRows ns cs)) (allRows ns cs)).toArray⟩, 0)) := by
                show _ = _
                unfold reportM
                rw [if_neg (by have := HL.out; omega), if_neg (by rw [HALL.out]; simp), HC.out, if_neg (by rw [HPL.out]; simp)]
              have HB := Lib.hid hB
              have HBW := Lib.hid hbW
              have HD := Lib.hid hD
              have HK := Lib.hid hK
              obtain ⟨T, hT⟩ : ∃ T, (⟨(tableL (widths (allRows ns cs)) (allRows ns cs)).toArray⟩ : ByteArray) = T := ⟨_, rfl⟩
              have CS := stringF_any wr.heap.size _ W HB.out
              rw [hT] at CS
              rw [hT] at HM
              have HCS2 := Lib.hid CS
              clear hall hB hbW hD hK hT CS
              go_wp2_with fail
              refine HCS2.out.mono ?_
              rintro e w11 ⟨rfl, hb11, hk11⟩
              have HK11 := Lib.hid (hk11.same D _ HK.out rfl)
              have HB11 : Hid (Below w.heap.size w w11) := ((HST.out.tab.below.trans (HBW.out.mono e8)).trans (hb11.mono e8))
              clear hb11 hk11
              have hDw : w.heap.size ≤ D := by have := HD.out; simp at this; omega
              go_wp2
              refine ⟨by simp, .inl ⟨_, _, rfl, run_takeDeferred HK11.out, ?_⟩⟩
              refine ⟨_, results_tmp2 rfl _ _ _, ?_, HB11.out.trans (belowK_b (w := w) (Nat.le_refl _) w11 D _ _ hDw HK11.out rfl rfl)⟩
              rw [HM.out]; rfl
            case hstop => exact fun _ _ _ _ _ _ h _ => h.elim
      · rw [show plainB c.i c.s c.m c.k = false by simpa using hpl]
        have HM : Hid (reportM ns cs = (⟨#[]⟩, 2)) := by
          show _ = _
          unfold reportM
          rw [if_neg (by have := HL.out; omega), if_neg (by rw [HALL.out]; simp), HC.out, if_pos (by simpa using hpl)]
        have HB4 : Hid (Below w.heap.size w w4) := HBL.out.trans ((HB3.out.trans (((((Below.refl _ w3).alloc (Nat.le_refl _) _).trans (hb4.mono (by simp)))).mono HB3.out.size)).mono e3)
        clear hpl hb4
        go_wp2
        exact ⟨_, results_tmp2 rfl _ _ _, by rw [HM.out]; rfl, HB4.out⟩
end Go.Proofs.YtdalfkdfpeffdaaDoor
