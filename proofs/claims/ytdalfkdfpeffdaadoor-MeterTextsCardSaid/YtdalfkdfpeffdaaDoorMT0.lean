/- Proved here: what the law on texts keeps in memory; the texts that it tries are short. -/
import Derived.Test.YtdalfkdfpeffdaaDoorMS0
import Derived.Test.YtdalfkdfpeffdaaDoorMQ
import Derived.Laws.IdiomStrings
namespace Go.Proofs.YtdalfkdfpeffdaaDoor
open Go.RowKit

/-- What the law on texts keeps of its arguments. -/
structure XT (x0 x1 x2 x3 x4 x5 x6 x7 v0 v1 v2 : Value) (w wr : World) : Prop where
  c0 : wr.cell? ⟨w.heap.size, 0, none⟩ = some x0
  c1 : wr.cell? ⟨w.heap.size, 1, none⟩ = some x1
  c2 : wr.cell? ⟨w.heap.size, 2, none⟩ = some x2
  c3 : wr.cell? ⟨w.heap.size, 3, none⟩ = some x3
  c4 : wr.cell? ⟨w.heap.size, 4, none⟩ = some x4
  c5 : wr.cell? ⟨w.heap.size, 5, none⟩ = some x5
  c6 : wr.cell? ⟨w.heap.size, 6, none⟩ = some x6
  c7 : wr.cell? ⟨w.heap.size, 7, none⟩ = some x7
  d0 : wr.cell? ⟨w.heap.size + 1, 0, none⟩ = some v0
  d1 : wr.cell? ⟨w.heap.size + 1, 1, none⟩ = some v1
  d2 : wr.cell? ⟨w.heap.size + 1, 2, none⟩ = some v2
  size : w.heap.size + 1 < wr.heap.size
  below : Below w.heap.size w wr
  env0 : Env w
theorem XT.next {x0 x1 x2 x3 x4 x5 x6 x7 v0 v1 v2 : Value} {w wr w2 : World} (h : XT x0 x1 x2 x3 x4 x5 x6 x7 v0 v1 v2 w wr) (hb : Below wr.heap.size wr w2) : XT x0 x1 x2 x3 x4 x5 x6 x7 v0 v1 v2 w w2 :=
  have hs : w.heap.size < wr.heap.size := Nat.lt_of_succ_lt h.size
  ⟨(hb.cell (p := ⟨w.heap.size, 0, none⟩) hs).trans h.c0, (hb.cell (p := ⟨w.heap.size, 1, none⟩) hs).trans h.c1, (hb.cell (p := ⟨w.heap.size, 2, none⟩) hs).trans h.c2, (hb.cell (p := ⟨w.heap.size, 3, none⟩) hs).trans h.c3, (hb.cell (p := ⟨w.heap.size, 4, none⟩) hs).trans h.c4, (hb.cell (p := ⟨w.heap.size, 5, none⟩) hs).trans h.c5, (hb.cell (p := ⟨w.heap.size, 6, none⟩) hs).trans h.c6, (hb.cell (p := ⟨w.heap.size, 7, none⟩) hs).trans h.c7,
   (hb.cell (p := ⟨w.heap.size + 1, 0, none⟩) h.size).trans h.d0, (hb.cell (p := ⟨w.heap.size + 1, 1, none⟩) h.size).trans h.d1, (hb.cell (p := ⟨w.heap.size + 1, 2, none⟩) h.size).trans h.d2, Nat.lt_of_lt_of_le h.size hb.size, h.below.trans (hb.mono (Nat.le_of_lt hs)), h.env0⟩
theorem XT.env {x0 x1 x2 x3 x4 x5 x6 x7 v0 v1 v2 : Value} {w wr : World} (h : XT x0 x1 x2 x3 x4 x5 x6 x7 v0 v1 v2 w wr) : Env wr := h.env0.next h.below
theorem XT.drew {x0 x1 x2 x3 x4 x5 x6 x7 v0 v1 v2 : Value} {w wr : World} (h : XT x0 x1 x2 x3 x4 x5 x6 x7 v0 v1 v2 w wr) : XT x0 x1 x2 x3 x4 x5 x6 x7 v0 v1 v2 w wr.drew := h.next (Below.refl _ wr).drew
theorem XT.start {x0 x1 x2 x3 x4 x5 x6 x7 v0 v1 v2 : Value} {w : World} (he : Env w) (T U : TypeId) : XT x0 x1 x2 x3 x4 x5 x6 x7 v0 v1 v2 w ((w.alloc (.cells #[x0, x1, x2, x3, x4, x5, x6, x7] T)).alloc (.cells #[v0, v1, v2] U)) :=
  ⟨by simp, by simp, by simp, by simp, by simp, by simp, by simp, by simp, by simp [go_sem], by simp [go_sem], by simp [go_sem], by simp, ((Below.refl _ _).alloc (Nat.le_refl _) _).alloc (by simp) _, he⟩
theorem XT.put {x0 x1 x2 x3 x4 x5 x6 x7 v0 v1 v2 : Value} {w wr : World} (h : XT x0 x1 x2 x3 x4 x5 x6 x7 v0 v1 v2 w wr) {n : Nat} (hn : w.heap.size + 1 < n) (d : C4) : XT x0 x1 x2 x3 x4 x5 x6 x7 v0 v1 v2 w (put4 wr n d) :=
  have h1 : w.heap.size ≠ n := by omega
  have h2 : w.heap.size + 1 ≠ n := by omega
  ⟨(put4_cell h1).trans h.c0, (put4_cell h1).trans h.c1, (put4_cell h1).trans h.c2, (put4_cell h1).trans h.c3, (put4_cell h1).trans h.c4, (put4_cell h1).trans h.c5, (put4_cell h1).trans h.c6, (put4_cell h1).trans h.c7, (put4_cell h2).trans h.d0, (put4_cell h2).trans h.d1, (put4_cell h2).trans h.d2,
   by rw [put4_size]; exact h.size, put4_below h.below (by omega), h.env0⟩

/-- One of the costs that the law draws, by what has come up of its statement. -/
structure TH (bi bl bc ba bs : Bool) (X B : Nat) (w' : World) (off : Nat) (y0 y1 y2 y3 : Int) (ti tl tc ta : Value) : Prop where
  i : bi = true → ti = .pointer (some ⟨X, off, none⟩)
  l : bl = true → tl = .agg #[.int .i64 y0, .int .i64 y1, .int .i64 y2, .int .i64 y3]
  c : bc = true → ∃ c : C4, c.plainC ∧ tc = c.val
  a : ba = true → ∃ n c, ta = .pointer (some ⟨n, 0, none⟩) ∧ BoxAt B n c w' ∧ (bs = true → c.plainC)
theorem TH.next {bi bl bc ba bs : Bool} {X B : Nat} {w' w2 : World} {off : Nat} {y0 y1 y2 y3 : Int} {ti tl tc ta : Value} (h : TH bi bl bc ba bs X B w' off y0 y1 y2 y3 ti tl tc ta) (hb : Below w'.heap.size w' w2) : TH bi bl bc ba bs X B w2 off y0 y1 y2 y3 ti tl tc ta :=
  ⟨h.i, h.l, h.c, fun e => by obtain ⟨n, c, h1, h2, h3⟩ := h.a e; exact ⟨n, c, h1, h2.next hb, h3⟩⟩
theorem TH.other {bi bl bc ba bs : Bool} {X B : Nat} {w' : World} {off : Nat} {y0 y1 y2 y3 : Int} {ti tl tc ta : Value} {n : Nat} {d : C4} (h : TH bi bl bc ba bs X B w' off y0 y1 y2 y3 ti tl tc ta) (hne : ba = true → ta ≠ .pointer (some ⟨n, 0, none⟩)) : TH bi bl bc ba bs X B (put4 w' n d) off y0 y1 y2 y3 ti tl tc ta :=
  ⟨h.i, h.l, h.c, fun e => by
    obtain ⟨m, c, h1, h2, h3⟩ := h.a e
    exact ⟨m, c, h1, h2.other (fun e2 => hne e (by rw [h1, e2])), h3⟩⟩
theorem TH.idx {bl bc ba bs bi : Bool} {X B : Nat} {w' : World} {off : Nat} {y0 y1 y2 y3 : Int} {ti tl tc ta : Value} (h : TH bi bl bc ba bs X B w' off y0 y1 y2 y3 ti tl tc ta) : TH true bl bc ba bs X B w' off y0 y1 y2 y3 (.pointer (some ⟨X, off, none⟩)) tl tc ta :=
  ⟨fun _ => rfl, h.l, h.c, h.a⟩
theorem TH.load {bl bc ba bs bi : Bool} {X B : Nat} {w' : World} {off : Nat} {y0 y1 y2 y3 : Int} {ti tl tc ta : Value} (h : TH bi bl bc ba bs X B w' off y0 y1 y2 y3 ti tl tc ta) : TH bi true bc ba bs X B w' off y0 y1 y2 y3 ti (.agg #[.int .i64 y0, .int .i64 y1, .int .i64 y2, .int .i64 y3]) tc ta :=
  ⟨h.i, fun _ => rfl, h.c, h.a⟩
theorem TH.call {bl bc ba bs bi : Bool} {X B : Nat} {w' : World} {off : Nat} {y0 y1 y2 y3 : Int} {ti tl tc ta : Value} (h : TH bi bl bc ba bs X B w' off y0 y1 y2 y3 ti tl tc ta) {c : C4} (hc : c.plainC) : TH bi bl true ba bs X B w' off y0 y1 y2 y3 ti tl c.val ta :=
  ⟨h.i, h.l, fun _ => ⟨c, hc, rfl⟩, h.a⟩
theorem TH.alloc {bl bc ba bs bi : Bool} {X B : Nat} {w' : World} {off : Nat} {y0 y1 y2 y3 : Int} {ti tl tc ta : Value} (h : TH bi bl bc ba bs X B w' off y0 y1 y2 y3 ti tl tc ta) (hB : B < w'.heap.size) : TH bi bl bc true bs X B (w'.alloc (.cells #[.int .i64 0, .int .i64 0, .int .i64 0, .int .i64 0] 26)) off y0 y1 y2 y3 ti tl tc (.pointer (some ⟨w'.heap.size, 0, none⟩)) :=
  ⟨h.i, h.l, h.c, fun _ => ⟨_, _, rfl, BoxAt.fresh w' hB, fun _ => rfl⟩⟩
theorem TH.put {bl bc ba bs bi : Bool} {X B : Nat} {w' : World} {off : Nat} {y0 y1 y2 y3 : Int} {ti tl tc : Value} {n : Nat} {c d : C4} (h : TH bi bl bc ba bs X B w' off y0 y1 y2 y3 ti tl tc (.pointer (some ⟨n, 0, none⟩))) (hx : BoxAt B n c w') (hd : d.plainC) : TH bi bl bc ba true X B (put4 w' n d) off y0 y1 y2 y3 ti tl tc (.pointer (some ⟨n, 0, none⟩)) :=
  ⟨h.i, h.l, h.c, fun _ => ⟨n, d, rfl, hx.put, fun _ => hd⟩⟩
theorem TH.fresh {bi bl bc ba bs : Bool} {X B : Nat} {w' : World} {off : Nat} {y0 y1 y2 y3 : Int} {ti tl tc ta : Value} (h : TH bi bl bc ba bs X B w' off y0 y1 y2 y3 ti tl tc ta) (e : ba = true) : ta ≠ .pointer (some ⟨w'.heap.size, 0, none⟩) := by
  obtain ⟨n, c, h1, h2, -⟩ := h.a e
  rw [h1]
  intro e2
  have := h2.hi
  injection e2 with e3
  injection e3 with e4
  injection e4 with e5
  omega
theorem str_eq_no {a b : ByteArray} (h : a ≠ b) : (a.toList == b.toList) = false := by
  rw [beq_eq_false_iff_ne]
  intro e
  rw [ByteArray.toList_eq, ByteArray.toList_eq] at e
  exact h (ByteArray.ext (Array.toList_inj.mp e))
theorem C4.ne_cases {a b : C4} (h : a ≠ b) : (a.i == b.i) = false ∨ ((a.i == b.i) = true ∧ (a.s == b.s) = false) ∨ ((a.i == b.i) = true ∧ (a.s == b.s) = true ∧ (a.m == b.m) = false) ∨ ((a.i == b.i) = true ∧ (a.s == b.s) = true ∧ (a.m == b.m) = true ∧ (a.k == b.k) = false) := by
  simp only [beq_iff_eq, beq_eq_false_iff_ne]
  by_cases h0 : a.i = b.i
  · by_cases h1 : a.s = b.s
    · by_cases h2 : a.m = b.m
      · refine .inr (.inr (.inr ⟨h0, h1, h2, fun h3 => h ?_⟩))
        cases a; cases b
        simp only at h0 h1 h2 h3
        rw [h0, h1, h2, h3]
      · exact .inr (.inr (.inl ⟨h0, h1, h2⟩))
    · exact .inr (.inl ⟨h0, h1⟩)
  · exact .inl h0
theorem conv1 (c : UInt8) (n : Nat) (w : World) (h : w.cell? ⟨n, 0, none⟩ = some (.int .u8 (c.toNat : Int))) : (convert 40 9 (.slice (some ⟨n, 0, none⟩) 1 1)).run Tryd.prog w = .ok (.string ⟨#[c]⟩) w := by
  refine run_convert_bytes_back w 40 9 5 ⟨n, 0, none⟩ 1 [c] Tryd.underlying40 Tryd.underlying5 Tryd.underlying9 (fun j hj => ?_)
  have : j = 0 := by simpa using hj
  subst this
  simpa [Addr.add] using h
/-- A byte that the law has laid. -/
structure B1 (cb : UInt8) (n : Nat) (w : World) : Prop where
  c : w.cell? ⟨n, 0, none⟩ = some (.int .u8 (cb.toNat : Int))
  lt : n < w.heap.size
theorem B1.next {cb : UInt8} {n : Nat} {w w' : World} (h : B1 cb n w) (hb : Below w.heap.size w w') : B1 cb n w' := ⟨(hb.cell (p := ⟨n, 0, none⟩) h.lt).trans h.c, Nat.lt_of_lt_of_le h.lt hb.size⟩
/-- Five texts that the law has laid. -/
structure L5 (v : Value) (s1 s2 s3 s4 s5 : ByteArray) (n : Nat) (w : World) : Prop where
  v : v = .slice (some ⟨n, 0, none⟩) 5 5
  c0 : w.cell? ⟨n, 0, none⟩ = some (.string s1)
  c1 : w.cell? ⟨n, 1, none⟩ = some (.string s2)
  c2 : w.cell? ⟨n, 2, none⟩ = some (.string s3)
  c3 : w.cell? ⟨n, 3, none⟩ = some (.string s4)
  c4 : w.cell? ⟨n, 4, none⟩ = some (.string s5)
  lt : n < w.heap.size
theorem L5.next {v : Value} {s1 s2 s3 s4 s5 : ByteArray} {n : Nat} {w w' : World} (h : L5 v s1 s2 s3 s4 s5 n w) (hb : Below w.heap.size w w') : L5 v s1 s2 s3 s4 s5 n w' :=
  ⟨h.v, (hb.cell (p := ⟨n, 0, none⟩) h.lt).trans h.c0, (hb.cell (p := ⟨n, 1, none⟩) h.lt).trans h.c1, (hb.cell (p := ⟨n, 2, none⟩) h.lt).trans h.c2, (hb.cell (p := ⟨n, 3, none⟩) h.lt).trans h.c3, (hb.cell (p := ⟨n, 4, none⟩) h.lt).trans h.c4, Nat.lt_of_lt_of_le h.lt hb.size⟩
/-- The texts that the law tries, each a turn of s. -/
def turn0 (s : ByteArray) (k : Nat) (cb : UInt8) : ByteArray := s.extract 0 k ++ (⟨#[cb]⟩ : ByteArray) ++ s.extract (k + 1) s.size
def turn1 (s : ByteArray) (k : Nat) : ByteArray := s.extract 0 k ++ s.extract (k + 1) s.size
def turn2 (s : ByteArray) (k : Nat) (cb : UInt8) : ByteArray := s.extract 0 k ++ (⟨#[cb]⟩ : ByteArray) ++ s.extract k s.size
/-- What has come up of the statement that lays the texts. -/
structure R9 (D : Nat → Bool) (X : Nat) (s : ByteArray) (k : Nat) (cb : UInt8) (t50 t51 t52 t53 t54 t55 t56 t57 t58 t59 t60 t61 t62 t63 t64 t65 t66 t67 t68 t69 t70 t71 t72 t73 t74 t75 t76 t77 t78 t79 t80 t81 t82 t83 t84 t85 t86 t87 t88 t89 t10 : Value) (w' : World) : Prop where
  f0 : D 0 = true → t50 = .string s
  f1 : D 1 = true → t51 = .int .i64 (k : Int)
  f2 : D 2 = true → t52 = .string (s.extract 0 k)
  f3 : D 3 = true → t53 = .pointer (some ⟨X, 1, none⟩)
  f4 : D 4 = true → t54 = .int .u8 (cb.toNat : Int)
  f5 : D 5 = true → ∃ n, t55 = .slice (some ⟨n, 0, none⟩) 1 1 ∧ B1 cb n w'
  f6 : D 6 = true → t56 = .string (⟨#[cb]⟩ : ByteArray)
  f7 : D 7 = true → t57 = .string (s.extract 0 k ++ (⟨#[cb]⟩ : ByteArray))
  f8 : D 8 = true → t58 = .string s
  f9 : D 9 = true → t59 = .int .i64 (k : Int)
  f10 : D 10 = true → t60 = .int .i64 ((k : Int) + 1)
  f11 : D 11 = true → t61 = .string (s.extract (k + 1) s.size)
  f12 : D 12 = true → t62 = .string (s.extract 0 k ++ (⟨#[cb]⟩ : ByteArray) ++ s.extract (k + 1) s.size)
  f13 : D 13 = true → t63 = .string s
  f14 : D 14 = true → t64 = .int .i64 (k : Int)
  f15 : D 15 = true → t65 = .string (s.extract 0 k)
  f16 : D 16 = true → t66 = .string s
  f17 : D 17 = true → t67 = .int .i64 (k : Int)
  f18 : D 18 = true → t68 = .int .i64 ((k : Int) + 1)
  f19 : D 19 = true → t69 = .string (s.extract (k + 1) s.size)
  f20 : D 20 = true → t70 = .string (s.extract 0 k ++ s.extract (k + 1) s.size)
  f21 : D 21 = true → t71 = .string s
  f22 : D 22 = true → t72 = .int .i64 (k : Int)
  f23 : D 23 = true → t73 = .string (s.extract 0 k)
  f24 : D 24 = true → t74 = .pointer (some ⟨X, 1, none⟩)
  f25 : D 25 = true → t75 = .int .u8 (cb.toNat : Int)
  f26 : D 26 = true → ∃ n, t76 = .slice (some ⟨n, 0, none⟩) 1 1 ∧ B1 cb n w'
  f27 : D 27 = true → t77 = .string (⟨#[cb]⟩ : ByteArray)
  f28 : D 28 = true → t78 = .string (s.extract 0 k ++ (⟨#[cb]⟩ : ByteArray))
  f29 : D 29 = true → t79 = .string s
  f30 : D 30 = true → t80 = .int .i64 (k : Int)
  f31 : D 31 = true → t81 = .string (s.extract k s.size)
  f32 : D 32 = true → t82 = .string (s.extract 0 k ++ (⟨#[cb]⟩ : ByteArray) ++ s.extract k s.size)
  f33 : D 33 = true → t83 = .string s
  f34 : D 34 = true → t84 = .string s
  f35 : D 35 = true → t85 = .string (s ++ s)
  f36 : D 36 = true → t86 = .string s
  f37 : D 37 = true → t87 = .int .i64 (k : Int)
  f38 : D 38 = true → t88 = .string (s.extract 0 k)
  f39 : D 39 = true → ∃ n, L5 t89 (turn0 s k cb) (turn1 s k) (turn2 s k cb) (s ++ s) (s.extract 0 k) n w'
  f40 : D 40 = true → ∃ n, L5 t10 (turn0 s k cb) (turn1 s k) (turn2 s k cb) (s ++ s) (s.extract 0 k) n w'
/-- The texts, by their places. -/
def txt (s : ByteArray) (k : Nat) (cb : UInt8) : Nat → ByteArray
  | 0 => turn0 s k cb
  | 1 => turn1 s k
  | 2 => turn2 s k cb
  | 3 => s ++ s
  | _ => s.extract 0 k
theorem txt_size (s : ByteArray) (k : Nat) (cb : UInt8) (hs : s.size ≤ 118) (hk : k < s.size) (j : Nat) : (txt s k cb j).size < 4294967281 := by
  have e : (⟨#[cb]⟩ : ByteArray).size = 1 := rfl
  unfold txt
  split
  all_goals
    simp only [turn0, turn1, turn2, ByteArray.size_append, ByteArray.size_extract, e]
    omega
structure LT (s : ByteArray) (k : Nat) (cb : UInt8) (n : Nat) (w : World) : Prop where
  c : ∀ j, j < 5 → w.cell? ⟨n, j, none⟩ = some (.string (txt s k cb j))
  lt : n < w.heap.size
theorem LT.next {s : ByteArray} {k : Nat} {cb : UInt8} {n : Nat} {w w' : World} (h : LT s k cb n w) (hb : Below w.heap.size w w') : LT s k cb n w' :=
  ⟨fun j hj => (hb.cell (p := ⟨n, j, none⟩) h.lt).trans (h.c j hj), Nat.lt_of_lt_of_le h.lt hb.size⟩
theorem LT.of {v : Value} {s : ByteArray} {k : Nat} {cb : UInt8} {n : Nat} {w : World} (h : L5 v (turn0 s k cb) (turn1 s k) (turn2 s k cb) (s ++ s) (s.extract 0 k) n w) : LT s k cb n w :=
  ⟨fun j hj => by
    rcases (by omega : j = 0 ∨ j = 1 ∨ j = 2 ∨ j = 3 ∨ j = 4) with rfl | rfl | rfl | rfl | rfl
    · exact h.c0
    · exact h.c1
    · exact h.c2
    · exact h.c3
    · exact h.c4, h.lt⟩
/-- A place of a cost with an error. -/
structure P5 (n : Nat) (c : C4) (e : Int) (w : World) : Prop where
  c0 : w.cell? ⟨n, 0, none⟩ = some (.int .i64 c.i)
  c1 : w.cell? ⟨n, 1, none⟩ = some (.int .i64 c.s)
  c2 : w.cell? ⟨n, 2, none⟩ = some (.int .i64 c.m)
  c3 : w.cell? ⟨n, 3, none⟩ = some (.int .i64 c.k)
  c4 : w.cell? ⟨n, 4, none⟩ = some (.int .i64 e)
  lt : n < w.heap.size
theorem P5.next {n : Nat} {c : C4} {e : Int} {w w' : World} (h : P5 n c e w) (hb : Below w.heap.size w w') : P5 n c e w' :=
  ⟨(hb.cell (p := ⟨n, 0, none⟩) h.lt).trans h.c0, (hb.cell (p := ⟨n, 1, none⟩) h.lt).trans h.c1, (hb.cell (p := ⟨n, 2, none⟩) h.lt).trans h.c2, (hb.cell (p := ⟨n, 3, none⟩) h.lt).trans h.c3, (hb.cell (p := ⟨n, 4, none⟩) h.lt).trans h.c4, Nat.lt_of_lt_of_le h.lt hb.size⟩
theorem textC (a : C4) (s : ByteArray) (ha : a.plainC) (hs : textB a = s) (w : World) (he : Env w) : Calls Tryd.prog 12 #[.agg #[.int .i64 a.i, .int .i64 a.s, .int .i64 a.m, .int .i64 a.k]] w fun e w' => e = .returned (.string s) ∧ Below w.heap.size w w' := by
  obtain ⟨⟨h0, h1⟩, ⟨h2, h3⟩, ⟨h4, h5⟩, h6, h7⟩ := ha.out
  subst hs
  exact textB_any a.i a.s a.m a.k w he h0 h1 h2 h3 h4 h5 h6 h7
theorem parsedC (s : ByteArray) (c : C4) (n : Int) (h : parseM s = (c, n)) (hs : s.size < 4294967281) (w : World) (he : Env w) : Calls Tryd.prog 13 #[.string s] w fun e w' =>
      e = .returned (.agg #[.int .i64 c.i, .int .i64 c.s, .int .i64 c.m, .int .i64 c.k, .int .i64 n]) ∧ Below w.heap.size w w' := by
  refine (parsed_any s w hs he).mono ?_
  rw [h]
  exact fun e w' hx => hx

/-- What the law on texts keeps: its two costs. -/
structure TSt (x0 x1 x2 x3 x4 x5 x6 x7 v0 v1 v2 : Value) (w : World) (na nb : Nat) (a b : C4) (w' : World) : Prop where
  A : BoxAt (w.heap.size + 1) na a w'
  B : BoxAt (w.heap.size + 1) nb b w'
  x : XT x0 x1 x2 x3 x4 x5 x6 x7 v0 v1 v2 w w'
theorem TSt.next {x0 x1 x2 x3 x4 x5 x6 x7 v0 v1 v2 : Value} {w : World} {na nb : Nat} {a b : C4} {w' w2 : World} (h : TSt x0 x1 x2 x3 x4 x5 x6 x7 v0 v1 v2 w na nb a b w') (hb : Below w'.heap.size w' w2) : TSt x0 x1 x2 x3 x4 x5 x6 x7 v0 v1 v2 w na nb a b w2 :=
  ⟨h.A.next hb, h.B.next hb, h.x.next hb⟩
theorem TSt.drew {x0 x1 x2 x3 x4 x5 x6 x7 v0 v1 v2 : Value} {w : World} {na nb : Nat} {a b : C4} {w' : World} (h : TSt x0 x1 x2 x3 x4 x5 x6 x7 v0 v1 v2 w na nb a b w') : TSt x0 x1 x2 x3 x4 x5 x6 x7 v0 v1 v2 w na nb a b w'.drew := h.next (Below.refl _ w').drew
theorem TSt.cells {x0 x1 x2 x3 x4 x5 x6 x7 v0 v1 v2 : Value} {w : World} {na nb : Nat} {a b : C4} {w' : World} (h : TSt x0 x1 x2 x3 x4 x5 x6 x7 v0 v1 v2 w na nb a b w') :
    w'.cell? ⟨na, 0, none⟩ = some (.int .i64 a.i) ∧ w'.cell? ⟨na, 1, none⟩ = some (.int .i64 a.s) ∧ w'.cell? ⟨na, 2, none⟩ = some (.int .i64 a.m) ∧ w'.cell? ⟨na, 3, none⟩ = some (.int .i64 a.k) ∧
    w'.cell? ⟨nb, 0, none⟩ = some (.int .i64 b.i) ∧ w'.cell? ⟨nb, 1, none⟩ = some (.int .i64 b.s) ∧ w'.cell? ⟨nb, 2, none⟩ = some (.int .i64 b.m) ∧ w'.cell? ⟨nb, 3, none⟩ = some (.int .i64 b.k) :=
  ⟨h.A.c0, h.A.c1, h.A.c2, h.A.c3, h.B.c0, h.B.c1, h.B.c2, h.B.c3⟩
end Go.Proofs.YtdalfkdfpeffdaaDoor
