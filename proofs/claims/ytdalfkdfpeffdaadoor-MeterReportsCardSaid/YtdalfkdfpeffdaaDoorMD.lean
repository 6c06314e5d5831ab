/- Proved here: meter.Sum of costs that lie in memory is their sum from the left; for every list of at most 2^42 costs. -/
import Derived.Test.YtdalfkdfpeffdaaDoorMC
import Derived.Lib.Hide
namespace Go.Proofs.YtdalfkdfpeffdaaDoor
open Go.RowKit

/-- A cost as four numbers. -/
structure C4 where
  i : Int
  s : Int
  m : Int
  k : Int
deriving DecidableEq

def C4.add (a b : C4) : C4 := ⟨wrap64 (a.i + b.i), wrap64 (a.s + b.s), wrap64 (a.m + b.m), wrap64 (a.k + b.k)⟩
def C4.zero : C4 := ⟨0, 0, 0, 0⟩
def sumC (l : List C4) : C4 := l.foldl C4.add C4.zero

theorem sumC_take_succ (l : List C4) (k : Nat) (c : C4) (h : l[k]? = some c) : sumC (l.take (k + 1)) = (sumC (l.take k)).add c := by
  have hk := (List.getElem?_eq_some_iff.1 h).1
  have e : l[k] = c := (List.getElem?_eq_some_iff.1 h).2
  unfold sumC
  rw [List.take_succ_eq_append_getElem hk, List.foldl_append, e]; rfl

/-- A slice of costs that lies at b, from off on, holds l. -/
def Costs (w : World) (b off : Nat) (l : List C4) : Prop :=
  ∀ (j : Nat) (c : C4), l[j]? = some c →
    w.cell? ⟨b, off + j * 4, none⟩ = some (.int .i64 c.i) ∧ w.cell? ⟨b, off + j * 4 + 1, none⟩ = some (.int .i64 c.s) ∧ w.cell? ⟨b, off + j * 4 + 2, none⟩ = some (.int .i64 c.m) ∧ w.cell? ⟨b, off + j * 4 + 3, none⟩ = some (.int .i64 c.k)

theorem Costs.below {w w' : World} {b off B : Nat} {l : List C4} (h : Costs w b off l) (hb : Below B w w') (hB : b < B) : Costs w' b off l := by
  intro j c hj
  obtain ⟨h0, h1, h2, h3⟩ := h j c hj
  exact ⟨(hb.cell (p := ⟨b, _, none⟩) hB).trans h0, (hb.cell (p := ⟨b, _, none⟩) hB).trans h1, (hb.cell (p := ⟨b, _, none⟩) hB).trans h2, (hb.cell (p := ⟨b, _, none⟩) hB).trans h3⟩

/-- Four numbers stored into a place of four. -/
theorem set4 {w : World} {n : Nat} {x0 x1 x2 x3 : Value} (r0 : w.cell? ⟨n, 0, none⟩ = some x0) (r1 : w.cell? ⟨n, 1, none⟩ = some x1) (r2 : w.cell? ⟨n, 2, none⟩ = some x2) (r3 : w.cell? ⟨n, 3, none⟩ = some x3) (a b c d : Value) :
    ((((w.setCell ⟨n, 0, none⟩ a).setCell ⟨n, 1, none⟩ b).setCell ⟨n, 2, none⟩ c).setCell ⟨n, 3, none⟩ d).cell? ⟨n, 0, none⟩ = some a ∧
    ((((w.setCell ⟨n, 0, none⟩ a).setCell ⟨n, 1, none⟩ b).setCell ⟨n, 2, none⟩ c).setCell ⟨n, 3, none⟩ d).cell? ⟨n, 1, none⟩ = some b ∧
    ((((w.setCell ⟨n, 0, none⟩ a).setCell ⟨n, 1, none⟩ b).setCell ⟨n, 2, none⟩ c).setCell ⟨n, 3, none⟩ d).cell? ⟨n, 2, none⟩ = some c ∧
    ((((w.setCell ⟨n, 0, none⟩ a).setCell ⟨n, 1, none⟩ b).setCell ⟨n, 2, none⟩ c).setCell ⟨n, 3, none⟩ d).cell? ⟨n, 3, none⟩ = some d := by
  have q1 : (w.setCell ⟨n, 0, none⟩ a).cell? ⟨n, 1, none⟩ = some x1 := by simp [go_sem, r1]
  have q2 : ((w.setCell ⟨n, 0, none⟩ a).setCell ⟨n, 1, none⟩ b).cell? ⟨n, 2, none⟩ = some x2 := by simp [go_sem, r2]
  have q3 : (((w.setCell ⟨n, 0, none⟩ a).setCell ⟨n, 1, none⟩ b).setCell ⟨n, 2, none⟩ c).cell? ⟨n, 3, none⟩ = some x3 := by simp [go_sem, r3]
  refine ⟨?_, ?_, ?_, ?_⟩ <;> simp [go_sem, cell_set r0, cell_set q1, cell_set q2, cell_set q3]

/-- What a round of 'Sum' finds. -/
structure SumSt (A : Nat) (c : C4) (w wr : World) : Prop where
  c0 : wr.cell? ⟨A + 1, 0, none⟩ = some (.int .i64 c.i)
  c1 : wr.cell? ⟨A + 1, 1, none⟩ = some (.int .i64 c.s)
  c2 : wr.cell? ⟨A + 1, 2, none⟩ = some (.int .i64 c.m)
  c3 : wr.cell? ⟨A + 1, 3, none⟩ = some (.int .i64 c.k)
  f0 : wr.frozen? ⟨A + 1, 0, none⟩ = false
  f1 : wr.frozen? ⟨A + 1, 1, none⟩ = false
  f2 : wr.frozen? ⟨A + 1, 2, none⟩ = false
  f3 : wr.frozen? ⟨A + 1, 3, none⟩ = false
  r0 : wr.cell? ⟨A, 0, none⟩ = some (.int .i64 0)
  r1 : wr.cell? ⟨A, 1, none⟩ = some (.int .i64 0)
  r2 : wr.cell? ⟨A, 2, none⟩ = some (.int .i64 0)
  r3 : wr.cell? ⟨A, 3, none⟩ = some (.int .i64 0)
  g0 : wr.frozen? ⟨A, 0, none⟩ = false
  g1 : wr.frozen? ⟨A, 1, none⟩ = false
  g2 : wr.frozen? ⟨A, 2, none⟩ = false
  g3 : wr.frozen? ⟨A, 3, none⟩ = false
  below : Below A w wr
  size : A + 1 < wr.heap.size

theorem SumSt.later {A : Nat} {c : C4} {w wr w2 : World} {B : Nat} (h : SumSt A c w wr) (hb : Below B wr w2) (hB : A + 1 < B) (hAw : B ≤ w2.heap.size) : SumSt A c w w2 := by
  obtain ⟨c0, c1, c2, c3, f0, f1, f2, f3, r0, r1, r2, r3, g0, g1, g2, g3, hbl, hs⟩ := h
  exact ⟨(hb.cell (by simp; omega)).trans c0, (hb.cell (by simp; omega)).trans c1, (hb.cell (by simp; omega)).trans c2, (hb.cell (by simp; omega)).trans c3,
    (hb.frozen (by simp; omega)).trans f0, (hb.frozen (by simp; omega)).trans f1, (hb.frozen (by simp; omega)).trans f2, (hb.frozen (by simp; omega)).trans f3,
    (hb.cell (by simp; omega)).trans r0, (hb.cell (by simp; omega)).trans r1, (hb.cell (by simp; omega)).trans r2, (hb.cell (by simp; omega)).trans r3,
    (hb.frozen (by simp; omega)).trans g0, (hb.frozen (by simp; omega)).trans g1, (hb.frozen (by simp; omega)).trans g2, (hb.frozen (by simp; omega)).trans g3,
    hbl.trans (hb.mono (by omega)), by omega⟩

theorem SumSt.set {A : Nat} {c : C4} {w wr : World} (h : SumSt A c w wr) (d : C4) : SumSt A d w ((((wr.setCell ⟨A + 1, 0, none⟩ (.int .i64 d.i)).setCell ⟨A + 1, 1, none⟩ (.int .i64 d.s)).setCell ⟨A + 1, 2, none⟩ (.int .i64 d.m)).setCell ⟨A + 1, 3, none⟩ (.int .i64 d.k)) := by
  obtain ⟨c0, c1, c2, c3, f0, f1, f2, f3, r0, r1, r2, r3, g0, g1, g2, g3, hbl, hs⟩ := h
  have q1 : (wr.setCell ⟨A + 1, 0, none⟩ (.int .i64 d.i)).cell? ⟨A + 1, 1, none⟩ = some (.int .i64 c.s) := by simp [go_sem, c1]
  have q2 : ((wr.setCell ⟨A + 1, 0, none⟩ (.int .i64 d.i)).setCell ⟨A + 1, 1, none⟩ (.int .i64 d.s)).cell? ⟨A + 1, 2, none⟩ = some (.int .i64 c.m) := by simp [go_sem, c2]
  have q3 : (((wr.setCell ⟨A + 1, 0, none⟩ (.int .i64 d.i)).setCell ⟨A + 1, 1, none⟩ (.int .i64 d.s)).setCell ⟨A + 1, 2, none⟩ (.int .i64 d.m)).cell? ⟨A + 1, 3, none⟩ = some (.int .i64 c.k) := by simp [go_sem, c3]
  constructor
  all_goals first | (simp [go_sem, cell_set c0, cell_set q1, cell_set q2, cell_set q3, f0, f1, f2, f3, r0, r1, r2, r3, g0, g1, g2, g3]; done) | skip
  · exact (((hbl.setCell (by simp) _).setCell (by simp) _).setCell (by simp) _).setCell (by simp) _
  · simpa [World.setCell] using hs

set_option maxRecDepth 100000 in
set_option maxHeartbeats 1000000 in
theorem sum_some (l : List C4) (b off cap : Nat) (w : World) (hl : l.length ≤ 4398046511104) (hb : b < w.heap.size) (hc : Costs w b off l) :
    Calls Tryd.prog 10 #[.slice (some ⟨b, off, none⟩) l.length cap] w fun e w' =>
      e = .returned (.agg #[.int .i64 (sumC l).i, .int .i64 (sumC l).s, .int .i64 (sumC l).m, .int .i64 (sumC l).k]) ∧ Below w.heap.size w w' := by
  have HC := Lib.hid hc
  clear hc
  go_enter Tryd.func10, Tryd.ntmps10
  go_wp2
  go_loopw [8] (fun c wr => ∃ k : Nat, k ≤ l.length ∧ c = .int .i64 k ∧ SumSt w.heap.size (sumC (l.take k)) w wr) (fun c _ => l.length - (intOf c).toNat)
  case atStart =>
    refine ⟨0, Nat.zero_le _, rfl, ?_⟩
    constructor
    all_goals first | (simp [go_sem, sumC, C4.zero]; done) | skip
    exact ((Below.refl _ w).alloc (Nat.le_refl _) _).alloc (by simp) _
  case round =>
    obtain ⟨k, hk, rfl, h⟩ := hrel
    by_cases hlt : k < l.length
    · obtain ⟨d0, d1, d2, d3⟩ := (HC.out.below h.below hb) k l[k] (List.getElem?_eq_getElem hlt)
      have HS := Lib.hid h
      obtain ⟨c0, c1, c2, c3, f0, f1, f2, f3, r0, r1, r2, r3, g0, g1, g2, g3, hbl, hs⟩ := h
      go_wp2_with fail
      refine (add_any _ _ _ _ _ _ _ _ _).mono ?_
      rintro e w2 ⟨rfl, hb2⟩
      have hB2 : Below wr.heap.size wr w2 := ((Below.refl _ wr).alloc (Nat.le_refl _) _).trans (hb2.mono (by simp))
      have S2 := HS.out.later hB2 hs hB2.size
      clear hb2 c0 c1 c2 c3 f0 f1 f2 f3 r0 r1 r2 r3 g0 g1 g2 g3 d0 d1 d2 d3 hbl hs
      have HS2 := Lib.hid S2
      obtain ⟨c0, c1, c2, c3, f0, f1, f2, f3, r0, r1, r2, r3, g0, g1, g2, g3, hbl, hs⟩ := S2
      go_wp2
      go_roundw
      case rel => exact ⟨k + 1, by omega, by go_num, by rw [sumC_take_succ l k l[k] (List.getElem?_eq_getElem hlt)]; exact HS2.out.set _⟩
      case measure => simp [intOf]; omega
    · obtain rfl : k = l.length := by omega
      obtain ⟨c0, c1, c2, c3, f0, f1, f2, f3, r0, r1, r2, r3, g0, g1, g2, g3, hbl, hs⟩ := h
      go_wp2
      obtain ⟨q0, q1, q2, q3⟩ := set4 r0 r1 r2 r3 (.int .i64 (sumC l).i) (.int .i64 (sumC l).s) (.int .i64 (sumC l).m) (.int .i64 (sumC l).k)
      refine bodyPost_ret (v := .agg #[.int .i64 (sumC l).i, .int .i64 (sumC l).s, .int .i64 (sumC l).m, .int .i64 (sumC l).k]) (by simp [results, Tryd.results10, go_sem, q0, q1, q2, q3]) rfl ⟨rfl, ?_⟩
      exact (((hbl.setCell (by simp) _).setCell (by simp) _).setCell (by simp) _).setCell (by simp) _

/-- No costs, wherever. -/
theorem sum_none (a : Option Addr) (cap : Nat) (w : World) :
    Calls Tryd.prog 10 #[.slice a 0 cap] w fun e w' =>
      e = .returned (.agg #[.int .i64 0, .int .i64 0, .int .i64 0, .int .i64 0]) ∧ Below w.heap.size w w' := by
  go_enter Tryd.func10, Tryd.ntmps10
  go_wp2
  refine wp_loop_rounds 1 ?_
  rw [rounds_succ]; go_wp2
  refine bodyPost_ret (v := .agg #[.int .i64 0, .int .i64 0, .int .i64 0, .int .i64 0]) (by simp [results, Tryd.results10, go_sem]) rfl ⟨rfl, ?_⟩
  exact ((Below.refl _ w).alloc (Nat.le_refl _) _).alloc (by simp) _
end Go.Proofs.YtdalfkdfpeffdaaDoor
