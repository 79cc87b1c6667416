/- need, without a source. Conditions: those of each theorem. -/
import Derived.Test.YtkdlmnhkbockhaaS1
namespace Go.Proofs.Ytkdlmnhkbockhaa
open Go.RowKit

theorem set_same {α : Type} {l : List α} {k : Nat} {x : α} (h : l[k]? = some x) : l.set k x = l := by
  apply List.ext_getElem?
  intro i
  rw [List.getElem?_set]
  split
  · rename_i hi
    subst hi
    rw [if_pos (List.getElem?_eq_some_iff.1 h).1, h]
  · rfl
theorem Sp.lt64 {w : World} {S : Nat} {src : Value} {ps : List Pg} {fr : Nat → List UInt8} (h : Sp w S src ps fr) {k : Nat} {p : Pg} (hk : ps[k]? = some p) : k < 64 := by
  have := (List.getElem?_eq_some_iff.1 hk).1
  rw [h.len] at this
  exact this

set_option maxRecDepth 100000 in
set_option maxHeartbeats 400000 in
theorem need_known (S : Nat) (src : Value) (ps : List Pg) (fr : Nat → List UInt8) (k : Nat) (p : Pg) (w : World) (h : Sp w S src ps fr) (hk : ps[k]? = some p) (hp : p.known = true) :
    Calls Try.prog 33 #[.pointer (some ⟨S, 0, none⟩), .int .i64 (k : Int)] w fun e w' => e = .returned (.pointer (some ⟨S, 1 + k * 5, none⟩)) ∧ w = w' := by
  have hk64 := h.lt64 hk
  have hkI : (k : Int) < 64 := by omega
  have h0 := h.get0 hk
  rw [hp] at h0
  clear h hk
  go_enter Try.func33, Try.ntmps33
  go_wp2
  go_ret
  exact ⟨rfl, rfl⟩

set_option maxRecDepth 100000 in
set_option maxHeartbeats 400000 in
theorem need_nil (S : Nat) (ps : List Pg) (fr : Nat → List UInt8) (k : Nat) (p : Pg) (w : World) (h : Sp w S .nilFunc ps fr) (hk : ps[k]? = some p) (hp : p.known = false) :
    Calls Try.prog 33 #[.pointer (some ⟨S, 0, none⟩), .int .i64 (k : Int)] w fun e w' => e = .returned (.pointer (some ⟨S, 1 + k * 5, none⟩)) ∧ w' = w.setCell ⟨S, 1 + k * 5, none⟩ (.bool true) := by
  have hk64 := h.lt64 hk
  have hkI : (k : Int) < 64 := by omega
  have h0 := h.get0 hk
  have hf := h.frozen (1 + k * 5)
  have hs := (h.put0 hk true).srcCell
  have hnil : ∀ w : World, (binOp BinOp.eql 81 .nilFunc .nilFunc).run Try.prog w = .ok (.bool true) w := fun _ => by kernel_rfl
  rw [hp] at h0
  clear h hk
  go_enter Try.func33, Try.ntmps33
  go_wp2
  go_ret
  exact ⟨rfl, rfl⟩

/-- What a page is after it was needed, where there is no source. -/
def needN (p : Pg) : Pg := { p with known := true }
/-- need, where there is no source. -/
theorem need_none (S : Nat) (ps : List Pg) (fr : Nat → List UInt8) (k : Nat) (p : Pg) (w : World) (h : Sp w S .nilFunc ps fr) (hk : ps[k]? = some p) :
    Calls Try.prog 33 #[.pointer (some ⟨S, 0, none⟩), .int .i64 (k : Int)] w fun e w' => e = .returned (.pointer (some ⟨S, 1 + k * 5, none⟩)) ∧ Sp w' S .nilFunc (ps.set k (needN p)) fr ∧ Mod (fun i => i = S) w w' := by
  cases hp : p.known with
  | true =>
    refine (need_known S _ ps fr k p w h hk hp).mono ?_
    rintro e w' ⟨rfl, rfl⟩
    have : ps.set k (needN p) = ps := by
      have he : needN p = p := by cases p; simp_all [needN]
      rw [he, set_same hk]
    rw [this]
    exact ⟨rfl, h, Mod.refl _ _⟩
  | false =>
    refine (need_nil S ps fr k p w h hk hp).mono ?_
    rintro e w' ⟨rfl, rfl⟩
    exact ⟨rfl, h.put0 hk true, (Mod.refl (fun i => i = S) w).setCell _ _ (fun _ => rfl)⟩
end Go.Proofs.Ytkdlmnhkbockhaa
