/- An argument of type []byte reads as some bytes. No condition. -/
import Derived.Test.YtcpiplfajgdohaaB0
import Derived.Test.YtcpiplfajgdohaaProg
import Derived.Test.YtcpiplfajgdohaaRows
import Derived.ProofKit
namespace Go.Proofs.Ytcpiplfajgdohaa
open Go.ChangeShapes Go.WideShapes Go.ChangeAt Go.RowKit

theorem own_ : ownKnob Try.prog.godebug = none := by kernel_rfl
theorem laid_ : laidOutB Try.prog = true := by kernel_rfl
theorem cells5_ : Try.prog.cellsOf 5 = 1 := by kernel_rfl

theorem wf_byte {x : Int} (h : (Lit.int .u8 x).wf = true) : ((UInt8.ofNat x.toNat).toNat : Int) = x := by
  have h1 : IntKind.u8.min = 0 := rfl
  have h2 : IntKind.u8.max = 255 := rfl
  simp only [Lit.wf, Bool.and_eq_true, decide_eq_true_eq] at h
  rw [UInt8.toNat_ofNat_of_lt' (by show x.toNat < 256; omega)]
  omega

/-- An argument of type []byte, read. -/
theorem opened_rd {H : Type} {enc : TypeId × Value → H} {W : World} {a0 : Option Addr} {len cap : Nat} {d0 : DataW H} {p : List MemPlace}
    (h0 : DataW.Trod enc Try.prog W 0 (fun _ => true) true 22 (.slice a0 len cap) d0 p) : ∃ xs : List UInt8, RdB W a0 len cap xs ∧ len ≤ 9223372036854775807 := by
  obtain ⟨fuel, hf⟩ := h0
  rcases open_ints Try.underlying22 Try.underlying5 cells5_ hf with ⟨hcs, hx⟩ | ⟨a, len', cap', zs, hcs, _, hl, hm, hz, hx, hcell, hwz⟩
  · simp [Value.cells] at hcs
    obtain ⟨rfl, rfl, rfl⟩ := hcs
    exact ⟨[], RdV.nil _ _ _, by omega⟩
  · simp [Value.cells] at hcs
    obtain ⟨rfl, rfl, rfl⟩ := hcs
    simp only [if_true] at hz
    have hmx : maxLen = 9223372036854775807 := rfl
    refine ⟨(zs.take len).map fun x => UInt8.ofNat x.toNat, ⟨by simp [bts]; omega, hl, fun hp => ?_⟩, by omega⟩
    have h0 := hcell 0 (by omega)
    obtain ⟨b, off, s⟩ := a
    obtain rfl : s = none := by simpa [Addr.add] using World.cell?_spot h0
    refine ⟨b, off, rfl, fun j u hu => ?_⟩
    have hj : j < len := by
      have := (List.getElem?_eq_some_iff.1 hu).1
      simp [bts] at this
      omega
    have hc := hcell j (by omega)
    rw [addr_add] at hc
    rw [hc]
    simp only [bts, List.map_map, List.getElem?_map, List.getElem?_take, hj, if_true] at hu
    rw [List.getElem?_eq_getElem (by omega)] at hu
    simp only [Option.map_some, Function.comp, Option.some.injEq] at hu
    rw [← hu]
    simp only [B8]
    rw [wf_byte (hwz _ (List.getElem_mem _))]
    simp [List.getD, List.getElem?_eq_getElem (show j < zs.length by omega)]
end Go.Proofs.Ytcpiplfajgdohaa
