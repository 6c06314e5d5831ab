/- Proved here: sums and comparisons of costs as numbers; what the law on sums keeps in memory. -/
import Derived.Test.YtdalfkdfpeffdaaDoorMX
import Derived.Test.YtdalfkdfpeffdaaDoorRD
namespace Go.Proofs.YtdalfkdfpeffdaaDoor
open Go.RowKit

theorem addC (a b c : C4) (h : a.add b = c) (w : World) : Calls Tryd.prog 8 #[.agg #[.int .i64 a.i, .int .i64 a.s, .int .i64 a.m, .int .i64 a.k], .agg #[.int .i64 b.i, .int .i64 b.s, .int .i64 b.m, .int .i64 b.k]] w fun e w' =>
      e = .returned (.agg #[.int .i64 c.i, .int .i64 c.s, .int .i64 c.m, .int .i64 c.k]) ∧ Below w.heap.size w w' :=
  (add_any a.i a.s a.m a.k b.i b.s b.m b.k w).mono fun _ _ ⟨h1, h2⟩ => ⟨by subst h; rw [h1]; rfl, h2⟩
theorem addC0 (a c : C4) (h : a.add C4.zero = c) (w : World) : Calls Tryd.prog 8 #[.agg #[.int .i64 a.i, .int .i64 a.s, .int .i64 a.m, .int .i64 a.k], .agg #[.int .i64 0, .int .i64 0, .int .i64 0, .int .i64 0]] w fun e w' =>
      e = .returned (.agg #[.int .i64 c.i, .int .i64 c.s, .int .i64 c.m, .int .i64 c.k]) ∧ Below w.heap.size w w' :=
  addC a C4.zero c h w
def C4.sub (a b : C4) : C4 := ⟨wrap64 (a.i - b.i), wrap64 (a.s - b.s), wrap64 (a.m - b.m), wrap64 (a.k - b.k)⟩
theorem subC (a b c : C4) (h : a.sub b = c) (w : World) : Calls Tryd.prog 9 #[.agg #[.int .i64 a.i, .int .i64 a.s, .int .i64 a.m, .int .i64 a.k], .agg #[.int .i64 b.i, .int .i64 b.s, .int .i64 b.m, .int .i64 b.k]] w fun e w' =>
      e = .returned (.agg #[.int .i64 c.i, .int .i64 c.s, .int .i64 c.m, .int .i64 c.k]) ∧ Below w.heap.size w w' :=
  (sub_any a.i a.s a.m a.k b.i b.s b.m b.k w).mono fun _ _ ⟨h1, h2⟩ => ⟨by subst h; rw [h1]; rfl, h2⟩
def C4.most (a b : C4) : Bool := atMostB a.i a.s a.m a.k b.i b.s b.m b.k
theorem mostC (a b : C4) (t : Bool) (h : a.most b = t) (w : World) : Calls Tryd.prog 11 #[.agg #[.int .i64 a.i, .int .i64 a.s, .int .i64 a.m, .int .i64 a.k], .agg #[.int .i64 b.i, .int .i64 b.s, .int .i64 b.m, .int .i64 b.k]] w fun e w' =>
      e = .returned (.bool t) ∧ Below w.heap.size w w' :=
  (atMost_any a.i a.s a.m a.k b.i b.s b.m b.k w).mono fun _ _ ⟨h1, h2⟩ => ⟨by subst h; rw [h1]; rfl, h2⟩

structure XSt (x0 x1 x2 x3 x4 x5 x6 x7 x8 x9 xa xb : Value) (w wr : World) : Prop where
  c0 : wr.cell? ⟨w.heap.size, 0, none⟩ = some x0
  c1 : wr.cell? ⟨w.heap.size, 1, none⟩ = some x1
  c2 : wr.cell? ⟨w.heap.size, 2, none⟩ = some x2
  c3 : wr.cell? ⟨w.heap.size, 3, none⟩ = some x3
  c4 : wr.cell? ⟨w.heap.size, 4, none⟩ = some x4
  c5 : wr.cell? ⟨w.heap.size, 5, none⟩ = some x5
  c6 : wr.cell? ⟨w.heap.size, 6, none⟩ = some x6
  c7 : wr.cell? ⟨w.heap.size, 7, none⟩ = some x7
  c8 : wr.cell? ⟨w.heap.size, 8, none⟩ = some x8
  c9 : wr.cell? ⟨w.heap.size, 9, none⟩ = some x9
  ca : wr.cell? ⟨w.heap.size, 10, none⟩ = some xa
  cb : wr.cell? ⟨w.heap.size, 11, none⟩ = some xb
  size : w.heap.size < wr.heap.size
  below : Below w.heap.size w wr
  env0 : Env w
theorem XSt.next {x0 x1 x2 x3 x4 x5 x6 x7 x8 x9 xa xb : Value} {w wr w2 : World} (h : XSt x0 x1 x2 x3 x4 x5 x6 x7 x8 x9 xa xb w wr) (hb : Below wr.heap.size wr w2) : XSt x0 x1 x2 x3 x4 x5 x6 x7 x8 x9 xa xb w w2 :=
  ⟨(hb.cell (p := ⟨w.heap.size, 0, none⟩) h.size).trans h.c0, (hb.cell (p := ⟨w.heap.size, 1, none⟩) h.size).trans h.c1, (hb.cell (p := ⟨w.heap.size, 2, none⟩) h.size).trans h.c2, (hb.cell (p := ⟨w.heap.size, 3, none⟩) h.size).trans h.c3, (hb.cell (p := ⟨w.heap.size, 4, none⟩) h.size).trans h.c4, (hb.cell (p := ⟨w.heap.size, 5, none⟩) h.size).trans h.c5, (hb.cell (p := ⟨w.heap.size, 6, none⟩) h.size).trans h.c6, (hb.cell (p := ⟨w.heap.size, 7, none⟩) h.size).trans h.c7, (hb.cell (p := ⟨w.heap.size, 8, none⟩) h.size).trans h.c8, (hb.cell (p := ⟨w.heap.size, 9, none⟩) h.size).trans h.c9, (hb.cell (p := ⟨w.heap.size, 10, none⟩) h.size).trans h.ca, (hb.cell (p := ⟨w.heap.size, 11, none⟩) h.size).trans h.cb, Nat.lt_of_lt_of_le h.size hb.size, h.below.trans (hb.mono (Nat.le_of_lt h.size)), h.env0⟩
theorem XSt.env {x0 x1 x2 x3 x4 x5 x6 x7 x8 x9 xa xb : Value} {w wr : World} (h : XSt x0 x1 x2 x3 x4 x5 x6 x7 x8 x9 xa xb w wr) : Env wr := h.env0.next h.below
theorem XSt.drew {x0 x1 x2 x3 x4 x5 x6 x7 x8 x9 xa xb : Value} {w wr : World} (h : XSt x0 x1 x2 x3 x4 x5 x6 x7 x8 x9 xa xb w wr) : XSt x0 x1 x2 x3 x4 x5 x6 x7 x8 x9 xa xb w wr.drew := h.next (Below.refl _ wr).drew
theorem XSt.start {x0 x1 x2 x3 x4 x5 x6 x7 x8 x9 xa xb : Value} {w : World} (he : Env w) (T : TypeId) : XSt x0 x1 x2 x3 x4 x5 x6 x7 x8 x9 xa xb w (w.alloc (.cells #[x0, x1, x2, x3, x4, x5, x6, x7, x8, x9, xa, xb] T)) :=
  ⟨by simp, by simp, by simp, by simp, by simp, by simp, by simp, by simp, by simp, by simp, by simp, by simp, by simp, (Below.refl _ _).alloc (Nat.le_refl _) _, he⟩

/-- A place of a cost, laid by the law. -/
structure BoxAt (B n : Nat) (c : C4) (w : World) : Prop where
  c0 : w.cell? ⟨n, 0, none⟩ = some (.int .i64 c.i)
  c1 : w.cell? ⟨n, 1, none⟩ = some (.int .i64 c.s)
  c2 : w.cell? ⟨n, 2, none⟩ = some (.int .i64 c.m)
  c3 : w.cell? ⟨n, 3, none⟩ = some (.int .i64 c.k)
  f0 : w.frozen? ⟨n, 0, none⟩ = false
  f1 : w.frozen? ⟨n, 1, none⟩ = false
  f2 : w.frozen? ⟨n, 2, none⟩ = false
  f3 : w.frozen? ⟨n, 3, none⟩ = false
  lo : B < n
  hi : n < w.heap.size
theorem BoxAt.next {B n : Nat} {c : C4} {w w' : World} (h : BoxAt B n c w) (hb : Below w.heap.size w w') : BoxAt B n c w' :=
  ⟨(hb.cell (p := ⟨n, 0, none⟩) h.hi).trans h.c0, (hb.cell (p := ⟨n, 1, none⟩) h.hi).trans h.c1, (hb.cell (p := ⟨n, 2, none⟩) h.hi).trans h.c2, (hb.cell (p := ⟨n, 3, none⟩) h.hi).trans h.c3,
   (hb.frozen (p := ⟨n, 0, none⟩) h.hi).trans h.f0, (hb.frozen (p := ⟨n, 1, none⟩) h.hi).trans h.f1, (hb.frozen (p := ⟨n, 2, none⟩) h.hi).trans h.f2, (hb.frozen (p := ⟨n, 3, none⟩) h.hi).trans h.f3, h.lo, Nat.lt_of_lt_of_le h.hi hb.size⟩
theorem BoxAt.fresh {B : Nat} (w : World) (hB : B < w.heap.size) : BoxAt B w.heap.size C4.zero (w.alloc (.cells #[.int .i64 0, .int .i64 0, .int .i64 0, .int .i64 0] 26)) := by
  obtain ⟨⟨h0, h1, h2, h3⟩, ⟨g0, g1, g2, g3⟩, -⟩ := box4 (w := w) (n := w.heap.size) rfl rfl (Below.refl _ _)
  exact ⟨h0, h1, h2, h3, g0, g1, g2, g3, hB, by simp⟩
/-- Four numbers stored. -/
def put4 (w : World) (n : Nat) (c : C4) : World := (((w.setCell ⟨n, 0, none⟩ (.int .i64 c.i)).setCell ⟨n, 1, none⟩ (.int .i64 c.s)).setCell ⟨n, 2, none⟩ (.int .i64 c.m)).setCell ⟨n, 3, none⟩ (.int .i64 c.k)
theorem put4_size (w : World) (n : Nat) (c : C4) : (put4 w n c).heap.size = w.heap.size := by simp [put4, World.setCell]
theorem BoxAt.put {B n : Nat} {c d : C4} {w : World} (h : BoxAt B n c w) : BoxAt B n d (put4 w n d) := by
  obtain ⟨q0, q1, q2, q3⟩ := set4 h.c0 h.c1 h.c2 h.c3 (.int .i64 d.i) (.int .i64 d.s) (.int .i64 d.m) (.int .i64 d.k)
  exact ⟨q0, q1, q2, q3, by simp [put4, go_sem, h.f0], by simp [put4, go_sem, h.f1], by simp [put4, go_sem, h.f2], by simp [put4, go_sem, h.f3], h.lo, by rw [put4_size]; exact h.hi⟩
theorem put4_cell {w : World} {n m k : Nat} {d : C4} (hne : m ≠ n) : (put4 w n d).cell? ⟨m, k, none⟩ = w.cell? ⟨m, k, none⟩ := by
  unfold put4
  rw [World.cell?_setCell_other _ _ _ _ (by simp [hne]), World.cell?_setCell_other _ _ _ _ (by simp [hne]), World.cell?_setCell_other _ _ _ _ (by simp [hne]), World.cell?_setCell_other _ _ _ _ (by simp [hne])]
theorem BoxAt.other {B n m : Nat} {c d : C4} {w : World} (h : BoxAt B m c w) (hne : m ≠ n) : BoxAt B m c (put4 w n d) :=
  ⟨(put4_cell hne).trans h.c0, (put4_cell hne).trans h.c1, (put4_cell hne).trans h.c2, (put4_cell hne).trans h.c3, by simp [put4, go_sem, h.f0], by simp [put4, go_sem, h.f1], by simp [put4, go_sem, h.f2], by simp [put4, go_sem, h.f3], h.lo, by rw [put4_size]; exact h.hi⟩
theorem put4_below {B n : Nat} {d : C4} {w w' : World} (h : Below B w w') (hn : B ≤ n) : Below B w (put4 w' n d) :=
  (((h.setCell hn _).setCell hn _).setCell hn _).setCell hn _

def C4.plainC (c : C4) : Prop := plainB c.i c.s c.m c.k = true
def C4.val (c : C4) : Value := .agg #[.int .i64 c.i, .int .i64 c.s, .int .i64 c.m, .int .i64 c.k]
/-- One of the costs that the law draws: what is known of it, by what has come up of its statement. -/
structure Thread (bi bl bc ba bs : Bool) (w w' : World) (off : Nat) (y0 y1 y2 y3 : Int) (ti tl tc ta : Value) : Prop where
  i : bi = true → ti = .pointer (some ⟨w.heap.size, off, none⟩)
  l : bl = true → tl = .agg #[.int .i64 y0, .int .i64 y1, .int .i64 y2, .int .i64 y3]
  c : bc = true → ∃ c : C4, c.plainC ∧ tc = c.val
  a : ba = true → ∃ n c, ta = .pointer (some ⟨n, 0, none⟩) ∧ BoxAt w.heap.size n c w' ∧ (bs = true → c.plainC)
theorem Thread.next {bi bl bc ba bs : Bool} {w w' w2 : World} {off : Nat} {y0 y1 y2 y3 : Int} {ti tl tc ta : Value} (h : Thread bi bl bc ba bs w w' off y0 y1 y2 y3 ti tl tc ta) (hb : Below w'.heap.size w' w2) : Thread bi bl bc ba bs w w2 off y0 y1 y2 y3 ti tl tc ta :=
  ⟨h.i, h.l, h.c, fun e => by obtain ⟨n, c, h1, h2, h3⟩ := h.a e; exact ⟨n, c, h1, h2.next hb, h3⟩⟩
theorem Thread.other {bi bl bc ba bs : Bool} {w w' : World} {off : Nat} {y0 y1 y2 y3 : Int} {ti tl tc ta : Value} {n : Nat} {d : C4} (h : Thread bi bl bc ba bs w w' off y0 y1 y2 y3 ti tl tc ta) (hne : ba = true → ta ≠ .pointer (some ⟨n, 0, none⟩)) : Thread bi bl bc ba bs w (put4 w' n d) off y0 y1 y2 y3 ti tl tc ta :=
  ⟨h.i, h.l, h.c, fun e => by
    obtain ⟨m, c, h1, h2, h3⟩ := h.a e
    exact ⟨m, c, h1, h2.other (fun e2 => hne e (by rw [h1, e2])), h3⟩⟩
theorem Thread.idx {bl bc ba bs bi : Bool} {w w' : World} {off : Nat} {y0 y1 y2 y3 : Int} {ti tl tc ta : Value} (h : Thread bi bl bc ba bs w w' off y0 y1 y2 y3 ti tl tc ta) : Thread true bl bc ba bs w w' off y0 y1 y2 y3 (.pointer (some ⟨w.heap.size, off, none⟩)) tl tc ta :=
  ⟨fun _ => rfl, h.l, h.c, h.a⟩
theorem Thread.load {bl bc ba bs bi : Bool} {w w' : World} {off : Nat} {y0 y1 y2 y3 : Int} {ti tl tc ta : Value} (h : Thread bi bl bc ba bs w w' off y0 y1 y2 y3 ti tl tc ta) : Thread bi true bc ba bs w w' off y0 y1 y2 y3 ti (.agg #[.int .i64 y0, .int .i64 y1, .int .i64 y2, .int .i64 y3]) tc ta :=
  ⟨h.i, fun _ => rfl, h.c, h.a⟩
theorem Thread.call {bl bc ba bs bi : Bool} {w w' : World} {off : Nat} {y0 y1 y2 y3 : Int} {ti tl tc ta : Value} (h : Thread bi bl bc ba bs w w' off y0 y1 y2 y3 ti tl tc ta) {c : C4} (hc : c.plainC) : Thread bi bl true ba bs w w' off y0 y1 y2 y3 ti tl c.val ta :=
  ⟨h.i, h.l, fun _ => ⟨c, hc, rfl⟩, h.a⟩
theorem Thread.alloc {bl bc ba bs bi : Bool} {w w' : World} {off : Nat} {y0 y1 y2 y3 : Int} {ti tl tc ta : Value} (h : Thread bi bl bc ba bs w w' off y0 y1 y2 y3 ti tl tc ta) (hB : w.heap.size < w'.heap.size) : Thread bi bl bc true bs w (w'.alloc (.cells #[.int .i64 0, .int .i64 0, .int .i64 0, .int .i64 0] 26)) off y0 y1 y2 y3 ti tl tc (.pointer (some ⟨w'.heap.size, 0, none⟩)) :=
  ⟨h.i, h.l, h.c, fun _ => ⟨_, _, rfl, BoxAt.fresh w' hB, fun _ => rfl⟩⟩
theorem Thread.put {bl bc ba bs bi : Bool} {w w' : World} {off : Nat} {y0 y1 y2 y3 : Int} {ti tl tc : Value} {n : Nat} {c d : C4} (h : Thread bi bl bc ba bs w w' off y0 y1 y2 y3 ti tl tc (.pointer (some ⟨n, 0, none⟩))) (hx : BoxAt w.heap.size n c w') (hd : d.plainC) : Thread bi bl bc ba true w (put4 w' n d) off y0 y1 y2 y3 ti tl tc (.pointer (some ⟨n, 0, none⟩)) :=
  ⟨h.i, h.l, h.c, fun _ => ⟨n, d, rfl, hx.put, fun _ => hd⟩⟩
theorem XSt.put {x0 x1 x2 x3 x4 x5 x6 x7 x8 x9 xa xb : Value} {w wr : World} (h : XSt x0 x1 x2 x3 x4 x5 x6 x7 x8 x9 xa xb w wr) {n : Nat} (hn : w.heap.size < n) (d : C4) : XSt x0 x1 x2 x3 x4 x5 x6 x7 x8 x9 xa xb w (put4 wr n d) :=
  have hne : w.heap.size ≠ n := Nat.ne_of_lt hn
  ⟨(put4_cell hne).trans h.c0, (put4_cell hne).trans h.c1, (put4_cell hne).trans h.c2, (put4_cell hne).trans h.c3, (put4_cell hne).trans h.c4, (put4_cell hne).trans h.c5, (put4_cell hne).trans h.c6, (put4_cell hne).trans h.c7, (put4_cell hne).trans h.c8, (put4_cell hne).trans h.c9, (put4_cell hne).trans h.ca, (put4_cell hne).trans h.cb,
   by rw [put4_size]; exact h.size, put4_below h.below (Nat.le_of_lt hn), h.env0⟩

theorem Thread.fresh {bi bl bc ba bs : Bool} {w w' : World} {off : Nat} {y0 y1 y2 y3 : Int} {ti tl tc ta : Value} (h : Thread bi bl bc ba bs w w' off y0 y1 y2 y3 ti tl tc ta) (e : ba = true) : ta ≠ .pointer (some ⟨w'.heap.size, 0, none⟩) := by
  obtain ⟨n, c, h1, h2, -⟩ := h.a e
  rw [h1]
  intro e2
  have := h2.hi
  injection e2 with e3
  injection e3 with e4
  injection e4 with e5
  omega

/-- What the law keeps: its three costs. -/
structure MSt (w : World) (na nb nc : Nat) (a b c : C4) (w' : World) : Prop where
  A : BoxAt w.heap.size na a w'
  B : BoxAt w.heap.size nb b w'
  C : BoxAt w.heap.size nc c w'
  below : Below w.heap.size w w'
  env0 : Env w
  size : w.heap.size < w'.heap.size
theorem MSt.next {w : World} {na nb nc : Nat} {a b c : C4} {w' w2 : World} (h : MSt w na nb nc a b c w') (hb : Below w'.heap.size w' w2) : MSt w na nb nc a b c w2 :=
  ⟨h.A.next hb, h.B.next hb, h.C.next hb, h.below.trans (hb.mono (Nat.le_of_lt h.size)), h.env0, Nat.lt_of_lt_of_le h.size hb.size⟩
theorem MSt.drew {w : World} {na nb nc : Nat} {a b c : C4} {w' : World} (h : MSt w na nb nc a b c w') : MSt w na nb nc a b c w'.drew := h.next (Below.refl _ w').drew
theorem MSt.cells {w : World} {na nb nc : Nat} {a b c : C4} {w' : World} (h : MSt w na nb nc a b c w') :
    w'.cell? ⟨na, 0, none⟩ = some (.int .i64 a.i) ∧ w'.cell? ⟨na, 1, none⟩ = some (.int .i64 a.s) ∧ w'.cell? ⟨na, 2, none⟩ = some (.int .i64 a.m) ∧ w'.cell? ⟨na, 3, none⟩ = some (.int .i64 a.k) ∧
    w'.cell? ⟨nb, 0, none⟩ = some (.int .i64 b.i) ∧ w'.cell? ⟨nb, 1, none⟩ = some (.int .i64 b.s) ∧ w'.cell? ⟨nb, 2, none⟩ = some (.int .i64 b.m) ∧ w'.cell? ⟨nb, 3, none⟩ = some (.int .i64 b.k) ∧
    w'.cell? ⟨nc, 0, none⟩ = some (.int .i64 c.i) ∧ w'.cell? ⟨nc, 1, none⟩ = some (.int .i64 c.s) ∧ w'.cell? ⟨nc, 2, none⟩ = some (.int .i64 c.m) ∧ w'.cell? ⟨nc, 3, none⟩ = some (.int .i64 c.k) :=
  ⟨h.A.c0, h.A.c1, h.A.c2, h.A.c3, h.B.c0, h.B.c1, h.B.c2, h.B.c3, h.C.c0, h.C.c1, h.C.c2, h.C.c3⟩

theorem C4.add_comm (a b : C4) : a.add b = b.add a := by
  unfold C4.add
  rw [Int.add_comm a.i, Int.add_comm a.s, Int.add_comm a.m, Int.add_comm a.k]
theorem w_assoc (x y z : Int) : wrap64 (wrap64 (x + y) + z) = wrap64 (x + wrap64 (y + z)) := by unfold wrap64; omega
theorem C4.add_assoc (a b c : C4) : (a.add b).add c = a.add (b.add c) := by
  unfold C4.add
  simp only [w_assoc]
theorem w_back (x y : Int) (h : 0 ≤ x ∧ x ≤ 1099511627776) : wrap64 (wrap64 (x + y) - y) = x := by unfold wrap64; omega
theorem w_zero (x : Int) (h : 0 ≤ x ∧ x ≤ 1099511627776) : wrap64 (x + 0) = x := by unfold wrap64; omega
theorem C4.plainC.out {a : C4} (h : a.plainC) : (0 ≤ a.i ∧ a.i ≤ 1099511627776) ∧ (0 ≤ a.s ∧ a.s ≤ 1099511627776) ∧ (0 ≤ a.m ∧ a.m ≤ 1099511627776) ∧ (0 ≤ a.k ∧ a.k ≤ 1099511627776) := by
  unfold C4.plainC plainB at h
  rw [decide_eq_true_iff] at h
  omega
theorem C4.add_sub (a b : C4) (h : a.plainC) : (a.add b).sub b = a := by
  obtain ⟨h1, h2, h3, h4⟩ := h.out
  unfold C4.add C4.sub
  simp only [w_back _ _ h1, w_back _ _ h2, w_back _ _ h3, w_back _ _ h4]
theorem C4.add_zero (a : C4) (h : a.plainC) : a.add C4.zero = a := by
  obtain ⟨h1, h2, h3, h4⟩ := h.out
  unfold C4.add C4.zero
  simp only [w_zero _ h1, w_zero _ h2, w_zero _ h3, w_zero _ h4]

theorem Costs.take {w : World} {b off : Nat} {l : List C4} (h : Costs w b off l) (k : Nat) : Costs w b off (l.take k) := by
  intro j c hj
  rw [List.getElem?_take] at hj
  split at hj
  · exact h j c hj
  · cases hj
theorem Costs.drop {w : World} {b off : Nat} {l : List C4} (h : Costs w b off l) (k : Nat) : Costs w b (off + 4 * k) (l.drop k) := by
  intro j c hj
  rw [List.getElem?_drop] at hj
  have h1 := h (k + j) c hj
  have e : off + (k + j) * 4 = off + 4 * k + j * 4 := by omega
  rw [e] at h1
  exact h1
/-- The list that the law lays. -/
structure LSt (B : Nat) (cs : List C4) (w : World) : Prop where
  c : Costs w B 0 cs
  size : B < w.heap.size
theorem LSt.next {B : Nat} {cs : List C4} {w w' : World} (h : LSt B cs w) (hb : Below w.heap.size w w') : LSt B cs w' := ⟨h.c.below hb h.size, Nat.lt_of_lt_of_le h.size hb.size⟩
theorem LSt.start (w : World) (a b c d : C4) : LSt w.heap.size [a, b, c, d] (w.alloc (.cells #[.int .i64 a.i, .int .i64 a.s, .int .i64 a.m, .int .i64 a.k, .int .i64 b.i, .int .i64 b.s, .int .i64 b.m, .int .i64 b.k, .int .i64 c.i, .int .i64 c.s, .int .i64 c.m, .int .i64 c.k, .int .i64 d.i, .int .i64 d.s, .int .i64 d.m, .int .i64 d.k] 26)) := by
  refine ⟨?_, by simp⟩
  intro j x hj
  rcases j with _ | _ | _ | _ | j <;> simp at hj <;> subst hj <;> simp
theorem sumAt (B off m cap : Nat) (cs : List C4) (V : C4) (w : World) (hV : sumC cs = V) (hm : cs.length = m) (hB : B < w.heap.size) (hc : Costs w B off cs) (h4 : m ≤ 4) : Calls Tryd.prog 10 #[.slice (some ⟨B, off, none⟩) m cap] w fun e w' =>
      e = .returned (.agg #[.int .i64 V.i, .int .i64 V.s, .int .i64 V.m, .int .i64 V.k]) ∧ Below w.heap.size w w' := by
  subst hV
  subst hm
  exact sum_any (some ⟨B, off, none⟩) cs cap w (by omega) (.inr ⟨B, off, rfl, hB, hc⟩)
theorem sumHead (B k cap : Nat) (cs : List C4) (V : C4) (w : World) (hV : sumC (cs.take k) = V) (hk : k ≤ cs.length) (h4 : cs.length ≤ 4) (h : LSt B cs w) : Calls Tryd.prog 10 #[.slice (some ⟨B, 0, none⟩) k cap] w fun e w' =>
      e = .returned (.agg #[.int .i64 V.i, .int .i64 V.s, .int .i64 V.m, .int .i64 V.k]) ∧ Below w.heap.size w w' :=
  sumAt B 0 k cap (cs.take k) V w hV (by simp; omega) h.size (h.c.take k) (by omega)
theorem sumTail (B off m k cap : Nat) (cs : List C4) (V : C4) (w : World) (hV : sumC (cs.drop k) = V) (ho : off = 4 * k) (hm : cs.length - k = m) (h4 : cs.length ≤ 4) (h : LSt B cs w) : Calls Tryd.prog 10 #[.slice (some ⟨B, off, none⟩) m cap] w fun e w' =>
      e = .returned (.agg #[.int .i64 V.i, .int .i64 V.s, .int .i64 V.m, .int .i64 V.k]) ∧ Below w.heap.size w w' :=
  sumAt B off m cap (cs.drop k) V w hV (by simp; omega) h.size (by rw [ho]; have := h.c.drop k; rw [Nat.zero_add] at this; exact this) (by omega)
theorem sumNil (w : World) : Calls Tryd.prog 10 #[.slice none 0 0] w fun e w' => e = .returned (.agg #[.int .i64 0, .int .i64 0, .int .i64 0, .int .i64 0]) ∧ Below w.heap.size w w' :=
  (sum_any none [] 0 w (by decide) (.inl rfl)).mono fun _ _ ⟨h1, h2⟩ => ⟨by rw [h1]; kernel_rfl, h2⟩
theorem sumEmpty (a : Option Addr) (cap : Nat) (w : World) : Calls Tryd.prog 10 #[.slice a 0 cap] w fun e w' => e = .returned (.agg #[.int .i64 0, .int .i64 0, .int .i64 0, .int .i64 0]) ∧ Below w.heap.size w w' :=
  (sum_any a [] cap w (by decide) (.inl rfl)).mono fun _ _ ⟨h1, h2⟩ => ⟨by rw [h1]; kernel_rfl, h2⟩
theorem C4.zero_add (a : C4) (h : a.plainC) : C4.zero.add a = a := by rw [C4.add_comm, C4.add_zero a h]
def C4.ok (a : C4) : Prop := a.add C4.zero = a
theorem C4.ok_add {a b : C4} (hb : b.ok) : (a.add b).ok := by unfold C4.ok; rw [C4.add_assoc, show b.add C4.zero = b from hb]
theorem C4.ok_zero : C4.zero.ok := by unfold C4.ok; kernel_rfl
theorem foldl_add (l : List C4) (hl : ∀ x ∈ l, x.plainC) : ∀ a : C4, a.ok → l.foldl C4.add a = a.add (sumC l) := by
  induction l with
  | nil => intro a ha; exact ha.symm
  | cons x r ih =>
    intro a ha
    have hx : x.ok := C4.add_zero x (hl x (by simp))
    have ih' := ih (fun y hy => hl y (by simp [hy]))
    have e1 : sumC (x :: r) = x.add (sumC r) := by
      show r.foldl C4.add (C4.zero.add x) = _
      rw [C4.zero_add x (hl x (by simp)), ih' x hx]
    rw [e1, ← C4.add_assoc, ← ih' (a.add x) (C4.ok_add hx)]
    rfl
theorem sumC_ok (l : List C4) (hl : ∀ x ∈ l, x.plainC) : (sumC l).ok := by
  have h : ∀ (l : List C4), (∀ x ∈ l, x.plainC) → ∀ a : C4, a.ok → (l.foldl C4.add a).ok := by
    intro l
    induction l with
    | nil => intro _ a ha; exact ha
    | cons x r ih => intro hl a _; exact ih (fun y hy => hl y (by simp [hy])) _ (C4.ok_add (C4.add_zero x (hl x (by simp))))
  exact h l hl C4.zero C4.ok_zero
theorem sumC_parts (l : List C4) (hl : ∀ x ∈ l, x.plainC) (k : Nat) : (sumC (l.take k)).add (sumC (l.drop k)) = sumC l := by
  rw [← foldl_add (l.drop k) (fun x hx => hl x (List.mem_of_mem_drop hx)) _ (sumC_ok _ (fun x hx => hl x (List.mem_of_mem_take hx)))]
  unfold sumC
  rw [← List.foldl_append, List.take_append_drop]

theorem C4.most_refl (a : C4) : a.most a = true := by
  unfold C4.most atMostB
  rw [decide_eq_true_iff]
  omega
theorem C4.most_add (a b : C4) (ha : a.plainC) (hb : b.plainC) : a.most (a.add b) = true := by
  obtain ⟨h1, h2, h3, h4⟩ := ha.out
  obtain ⟨g1, g2, g3, g4⟩ := hb.out
  unfold C4.most C4.add atMostB wrap64
  rw [decide_eq_true_iff]
  dsimp only
  omega
theorem C4.most_anti {a b : C4} (h : a.most b = true) (g : b.most a = true) : a = b := by
  unfold C4.most atMostB at h g
  rw [decide_eq_true_iff] at h g
  cases a; cases b
  simp only at h g
  simp only [C4.mk.injEq]
  omega
theorem C4.most_trans {a b c : C4} (h : a.most b = true) (g : b.most c = true) : a.most c = true := by
  unfold C4.most atMostB at *
  rw [decide_eq_true_iff] at *
  omega
theorem C4.most_shift (a b c : C4) (ha : a.plainC) (hb : b.plainC) (hc : c.plainC) : (a.add c).most (b.add c) = a.most b := by
  obtain ⟨h1, h2, h3, h4⟩ := ha.out
  obtain ⟨g1, g2, g3, g4⟩ := hb.out
  obtain ⟨k1, k2, k3, k4⟩ := hc.out
  unfold C4.most C4.add atMostB wrap64
  dsimp only
  rw [decide_eq_decide]
  omega

theorem most_or (a b : C4) : Hid (a.most b = true) ∨ Hid (a.most b = false) := by
  cases h : a.most b with
  | true => exact .inl (Lib.hid rfl)
  | false => exact .inr (Lib.hid rfl)
end Go.Proofs.YtdalfkdfpeffdaaDoor
