/- An argument of type [][]byte reads as some rows of bytes. No condition. -/
import Derived.Test.YtcpiplfajgdohaaR0
import Derived.Deep.Matrix
namespace Go.Proofs.Ytcpiplfajgdohaa
open Go.ChangeShapes Go.WideShapes Go.ChangeAt Go.RowKit

/-- A slice of bytes: where, how long, its capacity, what it holds. -/
structure SR where
  A : Option Addr
  n : Nat
  c : Nat
  xs : List UInt8
def SR.v (s : SR) : Value := .slice s.A s.n s.c
abbrev SR.rd (w : World) (s : SR) : Prop := RdB w s.A s.n s.c s.xs

theorem cells22_ : Try.prog.cellsOf 22 = 1 := by kernel_rfl

theorem opened_rows {H : Type} {enc : TypeId × Value → H} {W : World} {a0 : Option Addr} {len cap : Nat} {d0 : DataW H} {p : List MemPlace}
    (h0 : DataW.Trod enc Try.prog W 0 (fun _ => true) true 49 (.slice a0 len cap) d0 p) : ∃ rows : List SR, RdV W a0 len cap (rows.map SR.v) ∧ (∀ s ∈ rows, s.rd W ∧ s.n ≤ 9223372036854775807) ∧ len ≤ 9223372036854775807 := by
  obtain ⟨fuel, hf⟩ := h0
  rcases Go.Deep.open_int_rows Try.underlying49 Try.underlying22 Try.underlying5 cells22_ cells5_ hf with ⟨hcs, hx⟩ | ⟨a, len', cap', A, L, C, Z, hcs, _, hl, hm, hx, hcell⟩
  · simp [Value.cells] at hcs
    obtain ⟨rfl, rfl, rfl⟩ := hcs
    exact ⟨[], RdV.nil _ _ _, by simp, by omega⟩
  · simp [Value.cells] at hcs
    obtain ⟨rfl, rfl, rfl⟩ := hcs
    have hmx : maxLen = 9223372036854775807 := rfl
    refine ⟨(List.range len).map fun r => ⟨A r, L r, C r, ((Z r).take (L r)).map fun x => UInt8.ofNat x.toNat⟩, ⟨by simp, hl, fun hp => ?_⟩, fun s hs => ?_, by omega⟩
    · have h0 := (hcell 0 (by omega)).1
      obtain ⟨b, off, s⟩ := a
      obtain rfl : s = none := by simpa [Addr.add] using World.cell?_spot h0
      refine ⟨b, off, rfl, fun j u hu => ?_⟩
      have hj : j < len := by
        have := (List.getElem?_eq_some_iff.1 hu).1
        simpa using this
      have hc := (hcell j (by omega)).1
      rw [addr_add] at hc
      rw [hc]
      simp only [List.map_map, List.getElem?_map, List.getElem?_range hj, Option.map_some, Function.comp, Option.some.injEq] at hu
      rw [← hu]
      rfl
    · simp only [List.mem_map, List.mem_range] at hs
      obtain ⟨r, hr, rfl⟩ := hs
      obtain ⟨hc, hLC, hCm, hZ, hwf, hnone, hsome⟩ := hcell r (by omega)
      refine ⟨⟨by simp [bts]; omega, hLC, fun hp => ?_⟩, by dsimp only; omega⟩
      dsimp only at hp ⊢
      cases hA : A r with
      | none => have := hnone hA; omega
      | some a' =>
        have hs := (hsome a' hA).2
        have h0 := hs 0 (by omega)
        obtain ⟨b', off', s⟩ := a'
        obtain rfl : s = none := by simpa [Addr.add] using World.cell?_spot h0
        refine ⟨b', off', rfl, fun j u hu => ?_⟩
        have hj : j < L r := by
          have := (List.getElem?_eq_some_iff.1 hu).1
          simp [bts] at this
          omega
        have hcj := hs j (by omega)
        rw [addr_add] at hcj
        rw [hcj]
        simp only [bts, List.map_map, List.getElem?_map, List.getElem?_take, hj, if_true] at hu
        rw [List.getElem?_eq_getElem (by omega)] at hu
        simp only [Option.map_some, Function.comp, Option.some.injEq] at hu
        rw [← hu]
        simp only [B8]
        rw [wf_byte (hwf _ (List.getElem_mem _))]
        simp [List.getD, List.getElem?_eq_getElem (show j < (Z r).length by omega)]
end Go.Proofs.Ytcpiplfajgdohaa
