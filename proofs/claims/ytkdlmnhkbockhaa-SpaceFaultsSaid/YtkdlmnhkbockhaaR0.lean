/- An argument of type []byte reads as some bytes; an argument of type Op is its five fields. No condition. -/
import Derived.Test.YtkdlmnhkbockhaaB0
import Derived.Test.YtkdlmnhkbockhaaProg
import Derived.Test.YtkdlmnhkbockhaaRows
import Derived.ProofKit
import Derived.Lib.SmallJoins
namespace Go.Proofs.Ytkdlmnhkbockhaa
open Go.ChangeShapes Go.WideShapes Go.ChangeAt Go.RowKit

theorem own_ : ownKnob Try.prog.godebug = none := by kernel_rfl
theorem laid_ : laidOutB Try.prog = true := by kernel_rfl
theorem cells5_ : Try.prog.cellsOf 5 = 1 := by kernel_rfl

theorem wf_byte {x : Int} (h : (Lit.int .u8 x).wf = true) : ((UInt8.ofNat x.toNat).toNat : Int) = x := by
  have h1 : IntKind.u8.min = 0 := rfl
  have h2 : IntKind.u8.max = 255 := rfl
  simp only [Lit.wf, Bool.and_eq_true, decide_eq_true_eq] at h
  rw [UInt8.toNat_ofNat_of_lt' (by show x.toNat < 256; omega)]
  omega

/-- An argument of type []byte, read. -/
theorem opened_rd {H : Type} {enc : TypeId × Value → H} {W : World} {a0 : Option Addr} {len cap : Nat} {d0 : DataW H} {p : List MemPlace}
    (h0 : DataW.Trod enc Try.prog W 0 (fun _ => true) true 23 (.slice a0 len cap) d0 p) : ∃ xs : List UInt8, RdB W a0 len cap xs ∧ len ≤ 9223372036854775807 := by
  obtain ⟨fuel, hf⟩ := h0
  rcases open_ints Try.underlying23 Try.underlying5 cells5_ hf with ⟨hcs, hx⟩ | ⟨a, len', cap', zs, hcs, _, hl, hm, hz, hx, hcell, hwz⟩
  · simp [Value.cells] at hcs
    obtain ⟨rfl, rfl, rfl⟩ := hcs
    exact ⟨[], RdV.nil _ _ _, by omega⟩
  · simp [Value.cells] at hcs
    obtain ⟨rfl, rfl, rfl⟩ := hcs
    simp only [if_true] at hz
    have hmx : maxLen = 9223372036854775807 := rfl
    refine ⟨(zs.take len).map fun x => UInt8.ofNat x.toNat, ⟨by simp [bts]; omega, hl, fun hp => ?_⟩, by omega⟩
    have h0 := hcell 0 (by omega)
    obtain ⟨b, off, s⟩ := a
    obtain rfl : s = none := by simpa [Addr.add] using World.cell?_spot h0
    refine ⟨b, off, rfl, fun j u hu => ?_⟩
    have hj : j < len := by
      have := (List.getElem?_eq_some_iff.1 hu).1
      simp [bts] at this
      omega
    have hc := hcell j (by omega)
    rw [addr_add] at hc
    rw [hc]
    simp only [bts, List.map_map, List.getElem?_map, List.getElem?_take, hj, if_true] at hu
    rw [List.getElem?_eq_getElem (by omega)] at hu
    simp only [Option.map_some, Function.comp, Option.some.injEq] at hu
    rw [← hu]
    simp only [B8]
    rw [wf_byte (hwz _ (List.getElem_mem _))]
    simp [List.getD, List.getElem?_eq_getElem (show j < zs.length by omega)]

theorem array5_ {α : Type} {cs : Array α} (h : cs.size = 5) : ∃ c0 c1 c2 c3 c4, cs = #[c0, c1, c2, c3, c4] := by
  obtain ⟨l⟩ := cs
  match l, h with
  | [c0, c1, c2, c3, c4], _ => exact ⟨c0, c1, c2, c3, c4, rfl⟩
theorem cells5__ : Try.prog.cellsOf 5 = 1 ∧ Try.prog.cellsOf 3 = 1 ∧ Try.prog.cellsOf 9 = 1 ∧ Try.prog.cellsOf 44 = 5 := by refine ⟨?_, ?_, ?_, ?_⟩ <;> kernel_rfl
set_option maxRecDepth 100000 in
/-- An argument of type Op, read. -/
theorem opened_op {H : Type} {enc : TypeId × Value → H} {W : World} {r : Reach} {b0 : Nat} {v : Value} {d : DataW H} {p : List MemPlace} (hv : Value.okWide Try.prog W r b0 44 v)
    (h : DataW.Trod enc Try.prog W 0 (fun _ => true) true 44 v d p) : ∃ (k q : UInt8) (at_ n : Int) (s : ByteArray), v = .agg #[.int .u8 (k.toNat : Int), .int .u8 (q.toNat : Int), .int .i64 at_, .int .i64 n, .string s] ∧
      (-9223372036854775808 ≤ at_ ∧ at_ ≤ 9223372036854775807) ∧ (-9223372036854775808 ≤ n ∧ n ≤ 9223372036854775807) ∧ s.size ≤ 9223372036854775807 := by
  obtain ⟨cs, rfl, hsz⟩ := okWide_struct Try.underlying44 hv
  obtain ⟨k5, k3, k9, k44⟩ := cells5__
  obtain ⟨c0, c1, c2, c3, c4, rfl⟩ := array5_ (hsz.trans k44)
  obtain ⟨fuel, hf⟩ := h
  obtain ⟨xs, m, _, hx, hl, hlen, hfs⟩ := DataW.trod_struct Try.underlying44 hf
  have lt : ∀ i, i < 5 → ∃ y, xs[i]? = some y := fun i hi => ⟨_, List.getElem?_eq_getElem (by rw [hlen]; exact hi)⟩
  obtain ⟨y0, e0⟩ := lt 0 (by decide)
  obtain ⟨y1, e1⟩ := lt 1 (by decide)
  obtain ⟨y2, e2⟩ := lt 2 (by decide)
  obtain ⟨y3, e3⟩ := lt 3 (by decide)
  obtain ⟨y4, e4⟩ := lt 4 (by decide)
  have g0 := (hfs 0 _ rfl).trans e0
  have g1 := (hfs 1 _ rfl).trans e1
  have g2 := (hfs 2 _ rfl).trans e2
  have g3 := (hfs 3 _ rfl).trans e3
  have g4 := (hfs 4 _ rfl).trans e4
  obtain ⟨a0, f0, -, w0⟩ := DataW.trod_int Try.underlying5 g0
  obtain ⟨a1, f1, -, w1⟩ := DataW.trod_int Try.underlying5 g1
  obtain ⟨a2, f2, -, w2⟩ := DataW.trod_int Try.underlying3 g2
  obtain ⟨a3, f3, -, w3⟩ := DataW.trod_int Try.underlying3 g3
  obtain ⟨s, f4, -, w4⟩ := DataW.trod_string Try.underlying9 g4
  change List.take (Try.prog.cellsOf 5) (List.drop 0 [c0, c1, c2, c3, c4]) = _ at f0
  change List.take (Try.prog.cellsOf 5) (List.drop 1 [c0, c1, c2, c3, c4]) = _ at f1
  change List.take (Try.prog.cellsOf 3) (List.drop 2 [c0, c1, c2, c3, c4]) = _ at f2
  change List.take (Try.prog.cellsOf 3) (List.drop 3 [c0, c1, c2, c3, c4]) = _ at f3
  change List.take (Try.prog.cellsOf 9) (List.drop 4 [c0, c1, c2, c3, c4]) = _ at f4
  rw [k5] at f0 f1
  rw [k3] at f2 f3
  rw [k9] at f4
  simp only [List.drop_succ_cons, List.drop_zero, List.take_succ_cons, List.take_zero, List.cons.injEq, and_true] at f0 f1 f2 f3 f4
  refine ⟨UInt8.ofNat a0.toNat, UInt8.ofNat a1.toNat, a2, a3, s, ?_, ?_, ?_, w4⟩
  · rw [wf_byte w0, wf_byte w1, f0, f1, f2, f3, f4]
  · have h1 : IntKind.i64.min = -9223372036854775808 := rfl
    have h2 : IntKind.i64.max = 9223372036854775807 := rfl
    simp only [Lit.wf, Bool.and_eq_true, decide_eq_true_eq] at w2
    omega
  · have h1 : IntKind.i64.min = -9223372036854775808 := rfl
    have h2 : IntKind.i64.max = 9223372036854775807 := rfl
    simp only [Lit.wf, Bool.and_eq_true, decide_eq_true_eq] at w3
    omega
end Go.Proofs.Ytkdlmnhkbockhaa
