/- An argument of type []Fill, and one of type []Op, read. No condition. -/
import Derived.Test.YtkdlmnhkbockhaaR0
import Derived.Test.YtkdlmnhkbockhaaM3
import Derived.Deep.SlicePairs
namespace Go.Proofs.Ytkdlmnhkbockhaa
open Go.ChangeShapes Go.WideShapes Go.ChangeAt Go.RowKit

theorem cells80_ : Try.prog.cellsOf 80 = 2 := by kernel_rfl
theorem cells9_ : Try.prog.cellsOf 9 = 1 := by kernel_rfl

/-- An argument of type []Fill. -/
theorem opened_fills {H : Type} {enc : TypeId × Value → H} {W : World} {a0 : Option Addr} {len cap : Nat} {d0 : DataW H} {p : List MemPlace}
    (h0 : DataW.Trod enc Try.prog W 0 (fun _ => true) true 22 (.slice a0 len cap) d0 p) : ∃ l : List Fl, RdL W a0 len cap l ∧ len ≤ 9223372036854775807 := by
  obtain ⟨fuel, hf⟩ := h0
  rcases Go.Deep.open_slice_pairs Try.underlying22 Try.underlying80 cells80_ rfl rfl cells5_ cells9_ hf with ⟨hcs, hx⟩ | ⟨a, len', cap', m, n, V0, V1, D0, D1, P0, P1, hcs, _, hl, hm, hmm, hx, hcell⟩
  · simp [Value.cells] at hcs
    obtain ⟨rfl, rfl, rfl⟩ := hcs
    exact ⟨[], ⟨rfl, Nat.le_refl _, fun h => absurd h (by decide), fun x hx => absurd hx List.not_mem_nil⟩, by omega⟩
  · simp [Value.cells] at hcs
    obtain ⟨rfl, rfl, rfl⟩ := hcs
    simp only [if_true] at hmm
    subst hmm
    have hmx : maxLen = 9223372036854775807 := rfl
    have each : ∀ i, i < m → ∃ x : Fl, V0 i = .int .u8 (x.1.toNat : Int) ∧ V1 i = .string ⟨x.2.toArray⟩ ∧ x.2.length ≤ 9223372036854775807 := fun i hi => by
      obtain ⟨-, -, t0, t1⟩ := hcell i hi
      obtain ⟨z, f0, -, w0⟩ := DataW.trod_int Try.underlying5 t0
      obtain ⟨s, f1, -, w1⟩ := DataW.trod_string Try.underlying9 t1
      simp only [List.cons.injEq, and_true] at f0 f1
      refine ⟨(UInt8.ofNat z.toNat, s.data.toList), ?_, f1, ?_⟩
      · rw [f0]
        dsimp only
        rw [wf_byte w0]
      · have : s.size = s.data.toList.length := Lib.size_eq s
        rw [hmx] at w1
        dsimp only
        omega
    obtain ⟨f, hf2⟩ := Go.Deep.choose_lt each
    refine ⟨(List.range len).map f, ⟨by simp, hl, fun hp => ?_, fun x hx => ?_⟩, by omega⟩
    · have h0 := (hcell 0 (by omega)).1
      obtain ⟨b, off, s⟩ := a
      obtain rfl : s = none := by simpa [Addr.add] using World.cell?_spot h0
      refine ⟨b, off, rfl, fun j x hx => ?_⟩
      have hj : j < len := by
        have := (List.getElem?_eq_some_iff.1 hx).1
        simpa using this
      rw [List.getElem?_map, List.getElem?_range hj] at hx
      cases hx
      obtain ⟨c0, c1, -, -⟩ := hcell j (by omega)
      obtain ⟨e0, e1, -⟩ := hf2 j (by omega)
      rw [addr_add] at c0 c1
      rw [c0, Nat.add_assoc, c1, e0, e1]
      exact ⟨rfl, rfl⟩
    · obtain ⟨j, hj, rfl⟩ := List.mem_map.1 hx
      rw [List.mem_range] at hj
      exact (hf2 j (by omega)).2.2
end Go.Proofs.Ytkdlmnhkbockhaa
