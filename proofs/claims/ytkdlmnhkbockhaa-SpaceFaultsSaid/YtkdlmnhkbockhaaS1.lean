/- fill: a new copy with some bytes. Conditions: those of each theorem. -/
import Derived.Test.YtkdlmnhkbockhaaS0
import Derived.Lib.BufferWrite
namespace Go.Proofs.Ytkdlmnhkbockhaa
open Go.RowKit

/-- 64 bytes. -/
def padB (xs : List UInt8) : List UInt8 := xs.take 64 ++ List.replicate (64 - min 64 xs.length) 0
theorem padB_length (xs : List UInt8) : (padB xs).length = 64 := by
  unfold padB
  rw [List.length_append, List.length_take, List.length_replicate]; omega
def zeroF : List UInt8 := List.replicate 64 0

theorem built92 : Try.prog.built 92 [] = some (bts zeroF).toArray := by kernel_rfl
theorem run_build92 (w : World) : (Instr.build 92 #[]).run Try.prog w = .ok (.agg (bts zeroF).toArray) w := run_build w 92 _ _ built92
theorem len92 : Try.prog.arrayLen 92 = 64 := by kernel_rfl

/-- copy(dst, s), s a string: as many bytes as there is room for. -/
theorem run_copy_str {P : Program} (w : World) (dT sT ty elem : TypeId) (g dLen dCap : Nat) (s : ByteArray) (cur : Array Value) (t : TypeId)
    (hu : P.underlying dT = some (.slice elem)) (hs : (P.info? elem).map (·.size) = some 1) (hg : w.heap[g]? = some (.cells cur t (0, 0))) (hfit : dLen ≤ cur.size) :
    (Builtin.copy_ #[dT, sT] ty #[.slice (some ⟨g, 0, none⟩) dLen dCap, .string s]).run P w =
      .ok (goInt (min s.size dLen)) (w.setRow g (Lib.byteCells (s.data.toList.take (min s.size dLen)) ++ cur.toList.drop (min s.size dLen)).toArray) := by
  have hlen : (Lib.byteCells (s.data.toList.take (min s.size dLen))).length = min s.size dLen := by
    rw [Lib.byteCells_length, List.length_take, ← Lib.size_eq]; omega
  have hst := run_storeCells_at P g 0 t (Lib.byteCells (s.data.toList.take (min s.size dLen))) 0 cur w hg (by rw [hlen]; omega) (Lib.byteCells_one _)
  have htk : List.take (min s.size dLen) (List.map (fun b : UInt8 => Value.int IntKind.u8 (b.toNat : Int)) s.data.toList) = Lib.byteCells (s.data.toList.take (min s.size dLen)) := by
    rw [← List.map_take]
    rfl
  rw [hlen] at hst
  simp only [Nat.add_zero, Nat.zero_add, List.take_zero, List.nil_append] at hst
  cases hq : P.info? elem with
  | none => simp [hq] at hs
  | some i =>
    have hm2 : Nat.min s.size dLen = min s.size dLen := rfl
    simp [Builtin.copy_, run_underlying hu, Builtin.lenOf, Builtin.firstCells, sizeOf, typeInfo, hq, hm2]
    rw [htk, hst]
    simp [Result.andThen]
    congr 1
    omega

theorem setRow_blk {w : World} {g : Nat} {t : TypeId} {cs cs' : Array Value} (h : Blk w g t cs) : Blk (w.setRow g cs') g t cs' := by
  unfold Blk at h ⊢
  simp [World.setRow, Array.getElem?_modify, h]
theorem setRow_mod {w : World} {g : Nat} {cs' : Array Value} : Mod (fun k => k = g) w (w.setRow g cs') :=
  ⟨rfl, rfl, rfl, by simp [World.setRow], fun k _ hk => by simp [World.setRow, Array.getElem?_modify, Ne.symm hk]⟩
theorem wpList_copy_ {P : Program} {ops : Array Oper} {rest : List Oper} {o : Oper} {a : Act} {Q : Exit → Act → World → Prop} {w w' : World} {v : Value} (hgd : o.guard = none) (d s : Operand) (ts : Array TypeId)
    (ho : o.op = .call { callee := .builtin .copy, args := #[d, s], argTypes := ts })
    (hrun : (Builtin.copy_ ts o.type #[a.eval d, a.eval s]).run P w = .ok v w') (h : wpList P ops Q rest (a.put o.dst v) w') : wpList P ops Q (o :: rest) a w :=
  wpList_plain hgd fun _ hK => by
    unfold Oper.wp execOp
    simp only [ho, resolve, invoke, builtin, Sem.run_bind, Sem.run_pure, Result.andThen_ok, List.map_toArray, List.map_cons, List.map_nil, hrun]
    exact hK _ _ h
theorem info5_ : (Try.prog.info? 5).map (·.size) = some 1 := by kernel_rfl

set_option maxRecDepth 100000 in
set_option maxHeartbeats 400000 in
theorem fill_ok (s : ByteArray) (w : World) : Calls Try.prog 36 #[.string s] w fun e w' => e = .returned (.pointer (some ⟨w.heap.size, 0, none⟩)) ∧ Blk w' w.heap.size 92 (bts (padB s.data.toList)).toArray ∧ w'.heap.size = w.heap.size + 1 ∧ New w w' := by
  have hb := run_build92
  obtain ⟨C, hC⟩ : ∃ C, (bts zeroF).toArray = C := ⟨_, rfl⟩
  rw [hC] at hb
  have hsz : 64 ≤ C.size := by rw [← hC]; decide
  have hx := @run_box Try.prog
  have hl92 := len92
  have hcp := run_copy_str (P := Try.prog) (w.alloc (.cells C 92)) 23 9 3 5 w.heap.size 64 64 s C 92 Try.underlying23 info5_ (Blk.fresh w 92 C) hsz
  have hC64 : C.toList = bts zeroF := by rw [← hC]
  have hrow : (Lib.byteCells (s.data.toList.take (min s.size 64)) ++ C.toList.drop (min s.size 64)).toArray = (bts (padB s.data.toList)).toArray := by
    congr 1
    have hss : s.size = s.data.toList.length := Lib.size_eq s
    rw [hC64, padB, bts_append, hss]
    congr 1
    · rw [bts, Lib.byteCells]
      rcases Nat.le_total s.data.toList.length 64 with h | h
      · rw [Nat.min_eq_left h, List.take_of_length_le (Nat.le_refl _), List.take_of_length_le h]
        rfl
      · rw [Nat.min_eq_right h]
        rfl
    · rw [bts, bts, zeroF, ← List.map_drop, List.drop_replicate, Nat.min_comm]
  rw [hrow] at hcp
  obtain ⟨W', hW'⟩ : ∃ W', (w.alloc (.cells C 92)).setRow w.heap.size (bts (padB s.data.toList)).toArray = W' := ⟨_, rfl⟩
  rw [hW'] at hcp
  have HC := Lib.hid (And.intro hC (And.intro hb (And.intro hsz hW')))
  clear hC hb hsz hC64 hrow hW'
  go_enter Try.func36, Try.ntmps36
  go_upto_region 1 with fail
  refine wp_region_lit ?_
  refine wpList_build rfl 92 #[] rfl (.agg C) #[] (by simp) (HC.out.2.1 w) ?_
  go_wp2
  go_ret
  have hW := HC.out.2.2.2
  have hB : Blk (w.alloc (.cells C 92)) w.heap.size 92 C := Blk.fresh w 92 C
  refine ⟨rfl, ?_, ?_, ?_⟩
  · rw [← hW]; exact setRow_blk hB
  · rw [← hW]; simp [World.setRow]
  · rw [← hW]; exact ((Mod.refl (fun _ => False) w).alloc _).trans setRow_mod (fun i hi e => by omega)
end Go.Proofs.Ytkdlmnhkbockhaa
