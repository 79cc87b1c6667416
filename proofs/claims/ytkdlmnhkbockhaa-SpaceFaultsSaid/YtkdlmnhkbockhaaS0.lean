/- The words for a space in memory; New. Conditions: those of each theorem. -/
import Derived.Test.YtkdlmnhkbockhaaProg
import Derived.Test.YtkdlmnhkbockhaaB0
import Derived.WalkSpells
import Derived.Outline
import Derived.Deep.DeepFit
import Derived.Laws.Tables
import Derived.Deep.Cut
namespace Go.Proofs.Ytkdlmnhkbockhaa
open Go.RowKit

/-- What a space knows of a page: four Booleans, and the block of its copy. -/
structure Pg where
  known : Bool
  asked : Bool
  changed : Bool
  own : Bool
  copy : Option Nat
def ptr (g : Option Nat) : Value := .pointer (g.map fun g => ⟨g, 0, none⟩)
def pgC (p : Pg) : List Value := [.bool p.known, .bool p.asked, .bool p.changed, .bool p.own, ptr p.copy]
def spC (src : Value) (ps : List Pg) : List Value := src :: ps.flatMap pgC
def Pg.zero : Pg := ⟨false, false, false, false, none⟩
theorem flat_length : ∀ ps : List Pg, (ps.flatMap pgC).length = 5 * ps.length
  | [] => rfl
  | p :: ps => by
    rw [List.flatMap_cons, List.length_append, flat_length ps, List.length_cons]
    show 5 + _ = _
    omega
theorem flat_get : ∀ (ps : List Pg) (k j : Nat) (p : Pg), ps[k]? = some p → j < 5 → (ps.flatMap pgC)[k * 5 + j]? = (pgC p)[j]?
  | [], k, j, p, h, _ => by simp at h
  | p :: ps, 0, j, p', h, hj => by
    simp at h
    subst h
    rw [List.flatMap_cons, Nat.zero_mul, Nat.zero_add, List.getElem?_append_left (by simp [pgC]; omega)]
  | p :: ps, k + 1, j, p', h, hj => by
    simp at h
    rw [List.flatMap_cons, List.getElem?_append_right (by simp [pgC]; omega), ← flat_get ps k j p' h hj]
    congr 1
    show (k + 1) * 5 + j - 5 = _
    omega
theorem flat_set : ∀ (ps : List Pg) (k j : Nat) (p p' : Pg) (v : Value), ps[k]? = some p → j < 5 → (pgC p).set j v = pgC p' → (ps.flatMap pgC).set (k * 5 + j) v = (ps.set k p').flatMap pgC
  | [], k, j, p, p', v, h, _, _ => by simp at h
  | p :: ps, 0, j, q, p', v, h, hj, hs => by
    simp at h
    subst h
    rw [List.flatMap_cons, Nat.zero_mul, Nat.zero_add, List.set_append_left _ _ (by simp [pgC]; omega), hs]
    rfl
  | p :: ps, k + 1, j, q, p', v, h, hj, hs => by
    simp at h
    rw [List.flatMap_cons, List.set_append_right _ _ (by simp [pgC]; omega), show (k + 1) * 5 + j - (pgC p).length = k * 5 + j from by simp [pgC]; omega, flat_set ps k j q p' v h hj hs]
    rfl
theorem spC_length (src : Value) (ps : List Pg) : (spC src ps).length = 1 + 5 * ps.length := by
  rw [spC, List.length_cons, flat_length]; omega
theorem spC_get (src : Value) {ps : List Pg} {k j : Nat} {p : Pg} (h : ps[k]? = some p) (hj : j < 5) : (spC src ps)[1 + k * 5 + j]? = (pgC p)[j]? := by
  rw [spC, show 1 + k * 5 + j = (k * 5 + j) + 1 from by omega, List.getElem?_cons_succ, flat_get ps k j p h hj]
theorem spC_set (src : Value) {ps : List Pg} {k j : Nat} {p p' : Pg} {v : Value} (h : ps[k]? = some p) (hj : j < 5) (hs : (pgC p).set j v = pgC p') : (spC src ps).set (1 + k * 5 + j) v = spC src (ps.set k p') := by
  rw [spC, show 1 + k * 5 + j = (k * 5 + j) + 1 from by omega, List.set_cons_succ, flat_set ps k j p p' v h hj hs]
  rfl

/-- A space in memory: its block, its pages' copies. -/
structure Sp (w : World) (S : Nat) (src : Value) (ps : List Pg) (fr : Nat → List UInt8) : Prop where
  blk : Blk w S 87 (spC src ps).toArray
  len : ps.length = 64
  frm : ∀ p ∈ ps, ∀ g, p.copy = some g → Blk w g 92 (bts (fr g)).toArray ∧ (fr g).length = 64

section
variable {w w' : World} {S : Nat} {src : Value} {ps : List Pg} {fr : Nat → List UInt8}
theorem Sp.srcCell (h : Sp w S src ps fr) : w.cell? ⟨S, 0, none⟩ = some src := h.blk.cell 0 _ rfl
theorem Sp.get (h : Sp w S src ps fr) {k j : Nat} {p : Pg} {u : Value} (hk : ps[k]? = some p) (hu : (pgC p)[j]? = some u) : w.cell? ⟨S, 1 + k * 5 + j, none⟩ = some u := by
  refine h.blk.cell (1 + k * 5 + j) u ?_
  have hj : j < 5 := by have := (List.getElem?_eq_some_iff.1 hu).1; simpa [pgC] using this
  rw [List.getElem?_toArray, spC_get src hk hj, hu]
theorem Sp.get0 (h : Sp w S src ps fr) {k : Nat} {p : Pg} (hk : ps[k]? = some p) : w.cell? ⟨S, 1 + k * 5, none⟩ = some (.bool p.known) := h.get (j := 0) hk rfl
theorem Sp.frozen (h : Sp w S src ps fr) (i : Nat) : w.frozen? ⟨S, i, none⟩ = false := h.blk.frozen i
theorem Sp.ne (h : Sp w S src ps fr) {p : Pg} (hp : p ∈ ps) {g : Nat} (hg : p.copy = some g) : g ≠ S := Blk.ne_ (h.frm p hp g hg).1 h.blk (by decide)
theorem Sp.mod {T : Nat → Prop} (h : Sp w S src ps fr) (hm : Mod T w w') (h1 : ¬ T S) (h2 : ∀ p ∈ ps, ∀ g, p.copy = some g → ¬ T g) : Sp w' S src ps fr :=
  ⟨h.blk.mod hm h1, h.len, fun p hp g hg => ⟨(h.frm p hp g hg).1.mod hm (h2 p hp g hg), (h.frm p hp g hg).2⟩⟩
theorem Sp.new (h : Sp w S src ps fr) (hm : New w w') : Sp w' S src ps fr := h.mod hm (fun h => h) (fun _ _ _ _ h => h)
/-- One cell of a page is stored. -/
theorem Sp.put (h : Sp w S src ps fr) {k j : Nat} {p p' : Pg} {v : Value} (hk : ps[k]? = some p) (hj : j < 5) (hs : (pgC p).set j v = pgC p') (hf : ∀ g, p'.copy = some g → Blk (w.setCell ⟨S, 1 + k * 5 + j, none⟩ v) g 92 (bts (fr g)).toArray ∧ (fr g).length = 64) :
    Sp (w.setCell ⟨S, 1 + k * 5 + j, none⟩ v) S src (ps.set k p') fr := by
  refine ⟨?_, by rw [List.length_set]; exact h.len, fun q hq g hg => ?_⟩
  · have := h.blk.put (1 + k * 5 + j) v
    rw [← spC_set src hk hj hs]
    simpa using this
  · rcases List.mem_or_eq_of_mem_set hq with hq | rfl
    · exact ⟨(h.frm q hq g hg).1.far _ (h.ne hq hg) v, (h.frm q hq g hg).2⟩
    · exact hf g hg
theorem Sp.put0 (h : Sp w S src ps fr) {k : Nat} {p : Pg} (hk : ps[k]? = some p) (b : Bool) : Sp (w.setCell ⟨S, 1 + k * 5, none⟩ (.bool b)) S src (ps.set k { p with known := b }) fr :=
  h.put (j := 0) (p' := { p with known := b }) hk (by decide) rfl (fun g hg => by
    have hm := List.mem_of_getElem? hk
    exact ⟨(h.frm p hm g hg).1.far _ (h.ne hm hg) _, (h.frm p hm g hg).2⟩)
end

/-- A new space's pages. -/
def zeroPs : List Pg := List.replicate 64 Pg.zero
theorem built_nil : Try.prog.built 87 [(0, .nilFunc)] = some (spC .nilFunc zeroPs).toArray := by kernel_rfl
theorem built_func (f : Fn) (a b : Array Value) : Try.prog.built 87 [(0, .func f a b)] = some (spC (.func f a b) zeroPs).toArray := by kernel_rfl
theorem info87 : (Try.prog.info? 87).map (·.size) = some 321 := by kernel_rfl
theorem run_box {P : Program} (t : TypeId) (cs : Array Value) (w : World) : (Instr.box t (.agg cs)).run P w = .ok (.pointer (some ⟨w.heap.size, 0, none⟩)) (w.alloc (.cells cs t)) := rfl

/-- A source: none, or a function value. -/
def SrcV (src : Value) : Prop := src = .nilFunc ∨ ∃ f a b, src = .func f a b
theorem run_build87 {src : Value} (hs : SrcV src) (w : World) : (Instr.build 87 #[(0, src)]).run Try.prog w = .ok (.agg (spC src zeroPs).toArray) w := by
  rcases hs with rfl | ⟨f, a, b, rfl⟩
  · exact run_build w 87 _ _ built_nil
  · exact run_build w 87 _ _ (built_func f a b)

theorem wp_run_ {P : Program} {o : Oper} {a : Act} {Q : Exit → Act → World → Prop} {K : Act → World → Prop} {w w' : World} {v : Value} (h : (execOp a.eval o).run P w = .ok (.value v) w') (hK : K (a.put o.dst v) w') : o.wp P a w K Q := by
  unfold Oper.wp
  rw [h]
  exact hK
theorem wpList_build {P : Program} {ops : Array Oper} {rest : List Oper} {o : Oper} {a : Act} {Q : Exit → Act → World → Prop} {w : World} (hgd : o.guard = none) (t : TypeId) (parts : Array (Nat × Operand)) (ho : o.op = .build t parts) (v : Value) (vs : Array (Nat × Value)) (hvs : (parts.map fun (i, x) => (i, a.eval x)) = vs)
    (hrun : (Instr.build t vs).run P w = .ok v w) (h : wpList P ops Q rest (a.put o.dst v) w) : wpList P ops Q (o :: rest) a w :=
  wpList_plain hgd fun _ hK => by
    unfold Oper.wp execOp
    subst hvs
    simp only [ho, Sem.run_bind, Sem.run_pure, Result.andThen_ok, hrun]
    exact hK _ _ h

set_option maxRecDepth 100000 in
set_option maxHeartbeats 400000 in
theorem new_ok (src : Value) (hs : SrcV src) (w : World) : Calls Try.prog 11 #[src] w fun e w' => e = .returned (.pointer (some ⟨w.heap.size, 0, none⟩)) ∧ Sp w' w.heap.size src zeroPs (fun _ => []) ∧ New w w' := by
  have hb := run_build87 hs
  obtain ⟨C, hC⟩ : ∃ C, (spC src zeroPs).toArray = C := ⟨_, rfl⟩
  rw [hC] at hb
  have hx := @run_box Try.prog
  have HC := Lib.hid hC
  clear hC hs
  go_enter Try.func11, Try.ntmps11
  go_upto_region 1 with fail
  refine wp_region_lit ?_
  refine wpList_plain rfl fun K hK => wp_run_ (v := src) (w' := w) rfl (hK _ _ ?_)
  clear hK K
  refine wpList_build rfl 87 #[(0, .tmp 3)] rfl (.agg C) #[(0, src)] (by simp [Act.put, Act.eval]) (hb w) ?_
  go_wp2
  go_ret
  refine ⟨rfl, ⟨?_, rfl, fun p hp g hg => ?_⟩, (Mod.refl _ _).alloc _⟩
  · rw [HC.out]; exact Blk.fresh _ _ _
  · rw [List.eq_of_mem_replicate hp] at hg
    cases hg
end Go.Proofs.Ytkdlmnhkbockhaa
