/- Proved here: a slice of rows of four small numbers, read as a row's argument. -/
import Derived.Test.YtdalfkdfpeffdaaDoorRA
import Derived.Test.YtdalfkdfpeffdaaDoorMR
namespace Go.Proofs.YtdalfkdfpeffdaaDoor
open Go.ChangeShapes Go.WideShapes Go.ChangeAt Go.RowKit

theorem quads_open {H : Type} {enc : TypeId × Value → H} {P : Program} {w : World} {base : Nat} {spare : Nat → Bool} {held : Bool} {r0 : Reach} {b0 : Nat} {t r e : TypeId} {v : Value} {d : DataW H} {ps : List MemPlace}
    (ht : P.underlying t = some (.slice r)) (hr : P.underlying r = some (.array 4 e)) (he : P.underlying e = some (.int .u16)) (hce : P.cellsOf e = 1) (hcr : P.cellsOf r = 4) (hval : Value.okWide P w r0 b0 t v) (hd : DataW.Trod enc P w base spare held t v d ps) :
    ∃ a0 cs cap, v = .slice a0 (cs : List C4).length cap ∧ cs.length ≤ maxLen ∧ QuadsAt a0 cs w ∧ ∀ c ∈ cs, (0 ≤ c.i ∧ c.i ≤ 65535) ∧ (0 ≤ c.s ∧ c.s ≤ 65535) ∧ (0 ≤ c.m ∧ c.m ≤ 65535) ∧ (0 ≤ c.k ∧ c.k ≤ 65535) := by
  obtain ⟨a1, n1, c1, rfl⟩ := okWide_slice ht hval
  obtain ⟨fuel, hf⟩ := hd
  have e1 : (Value.slice a1 n1 c1).cells.toList = [.slice a1 n1 c1] := rfl
  rw [e1] at hf
  rcases DataW.trod_slice ht hf with ⟨h, _⟩ | ⟨a, len, cap, elems, rest, n, rfl, h, -, hb, hl, hc, hel, hget, -, -⟩
  · simp only [List.cons.injEq, Value.slice.injEq, and_true] at h
    obtain ⟨rfl, rfl, rfl⟩ := h
    exact ⟨none, [], 0, rfl, Nat.zero_le _, .inl rfl, fun _ h => by cases h⟩
  · simp only [List.cons.injEq, Value.slice.injEq, and_true] at h
    obtain ⟨rfl, rfl, rfl⟩ := h
    have key : ∀ i, i < n1 → ∃ c : C4, (w.cell? ((a.add (i * 4)).add 0) = some (.int .u16 c.i) ∧ w.cell? ((a.add (i * 4)).add 1) = some (.int .u16 c.s) ∧ w.cell? ((a.add (i * 4)).add 2) = some (.int .u16 c.m) ∧ w.cell? ((a.add (i * 4)).add 3) = some (.int .u16 c.k)) ∧ (0 ≤ c.i ∧ c.i ≤ 65535) ∧ (0 ≤ c.s ∧ c.s ≤ 65535) ∧ (0 ≤ c.m ∧ c.m ≤ 65535) ∧ (0 ≤ c.k ∧ c.k ≤ 65535) := by
      intro i hi
      have h1 := hget i hi
      rw [List.getElem?_eq_getElem (by omega), Option.bind_eq_some_iff] at h1
      obtain ⟨c4, hc4, ht4⟩ := h1
      rw [hcr] at hc4
      obtain ⟨_, hlen, hcell⟩ := World.cells?_some hc4
      obtain ⟨_, hi4⟩ := row_ints hr he hce ht4
      obtain ⟨z0, e0, w0⟩ := hi4 0 (by omega)
      obtain ⟨z1, e1, w1⟩ := hi4 1 (by omega)
      obtain ⟨z2, e2, w2⟩ := hi4 2 (by omega)
      obtain ⟨z3, e3, w3⟩ := hi4 3 (by omega)
      exact ⟨⟨z0, z1, z2, z3⟩, ⟨(hcell 0 (by omega)).trans e0, (hcell 1 (by omega)).trans e1, (hcell 2 (by omega)).trans e2, (hcell 3 (by omega)).trans e3⟩, bounds_u16 w0, bounds_u16 w1, bounds_u16 w2, bounds_u16 w3⟩
    refine ⟨some a, (List.range n1).map (fun i => if h : i < n1 then Classical.choose (key i h) else C4.zero), c1, by simp, by simp; omega, ?_, ?_⟩
    · rcases Nat.eq_zero_or_pos n1 with h0 | h0
      · left; subst h0; rfl
      · right
        obtain ⟨b, off, spot⟩ := a
        obtain ⟨c0, hc0⟩ := key 0 h0
        have hsp := World.cell?_spot hc0.1.1
        have hspot : spot = none := by simpa [Addr.add] using hsp
        subst hspot
        refine ⟨b, off, rfl, ?_, ?_⟩
        · have h1 := hc0.1.1
          unfold World.cell? at h1
          have e2 : (((⟨b, off, none⟩ : Addr).add (0 * 4)).add 0).block = b := by simp [Addr.add]
          rw [e2] at h1
          cases hh : w.heap[b]? with
          | none => rw [hh] at h1; cases h1
          | some o => exact (Array.getElem?_eq_some_iff.1 hh).1
        · intro j c hj
          rw [List.getElem?_map] at hj
          have hlt : j < n1 := by
            rcases Nat.lt_or_ge j n1 with h | h
            · exact h
            · rw [List.getElem?_eq_none (by simpa using h)] at hj; cases hj
          rw [List.getElem?_range hlt, Option.map_some, Option.some.injEq, dif_pos hlt] at hj
          have hs := (Classical.choose_spec (key j hlt)).1
          rw [hj] at hs
          simp only [add_plain, Nat.add_zero] at hs
          exact hs
    · intro c hc
      obtain ⟨i, hi, rfl⟩ := List.mem_map.1 hc
      have hlt := List.mem_range.1 hi
      rw [dif_pos hlt]
      exact (Classical.choose_spec (key i hlt)).2
end Go.Proofs.YtdalfkdfpeffdaaDoor
