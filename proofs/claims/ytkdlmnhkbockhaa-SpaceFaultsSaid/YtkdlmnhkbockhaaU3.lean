/- Shared. Conditions: those of each theorem. -/
import Derived.Test.YtkdlmnhkbockhaaU2
import Derived.LaidEqlPtr
namespace Go.Proofs.Ytkdlmnhkbockhaa
open Go.RowKit

theorem eql82 (g : Nat) (w : World) : (binOp BinOp.eql 82 (.pointer (some ⟨g, 0, none⟩)) (.pointer (some ⟨g, 0, none⟩))).run Try.prog w = .ok (.bool true) w := by
  obtain ⟨i, hi, hs⟩ := Option.map_eq_some_iff.1 info92
  exact run_eql_ptr_same w _ Try.underlying82 hi
theorem neq82 {g g2 : Nat} (hne : g ≠ g2) {w : World} {ca cb : Array Value} (ha : Blk w g 92 ca) (hb : Blk w g2 92 cb) : (binOp BinOp.eql 82 (.pointer (some ⟨g, 0, none⟩)) (.pointer (some ⟨g2, 0, none⟩))).run Try.prog w = .ok (.bool false) w := by
  obtain ⟨i, hi, hs⟩ := Option.map_eq_some_iff.1 info92
  exact run_eql_ptr_other w Try.underlying82 hi (by omega) (fun h => hne (by injection h)) ha hb
/-- Two entries share a copy. -/
def sameCopy (p q : Pg) : Bool := p.copy.isSome && p.copy == q.copy
/-- How many of the first j pages two spaces share. -/
def sharedN (ps pc : List Pg) (j : Nat) : Nat := ((List.range j).filter fun k => sameCopy (ps.getD k Pg.zero) (pc.getD k Pg.zero)).length
theorem sharedN_succ (ps pc : List Pg) (j : Nat) : sharedN ps pc (j + 1) = if sameCopy (ps.getD j Pg.zero) (pc.getD j Pg.zero) then sharedN ps pc j + 1 else sharedN ps pc j := by
  unfold sharedN
  rw [List.range_succ, List.filter_append]
  simp only [List.filter_cons, List.filter_nil]
  split <;> simp
theorem sharedN_le (ps pc : List Pg) (j : Nat) : sharedN ps pc j ≤ j := by
  unfold sharedN
  have := List.length_filter_le (fun k => sameCopy (ps.getD k Pg.zero) (pc.getD k Pg.zero)) (List.range j)
  simpa using this

set_option maxRecDepth 100000 in
set_option maxHeartbeats 1000000 in
theorem shared_ok (S C : Nat) (src src' : Value) (ps pc : List Pg) (fr fc : Nat → List UInt8) (w : World) (h : Sp w S src ps fr) (hc : Sp w C src' pc fc) :
    Calls Try.prog 13 #[.pointer (some ⟨S, 0, none⟩), .pointer (some ⟨C, 0, none⟩)] w fun e w' => e = .returned (.int .i64 (sharedN ps pc 64 : Nat)) ∧ w' = w := by
  have H := Lib.hid (And.intro h hc)
  clear h hc
  go_enter Try.func13, Try.ntmps13
  go_wp2
  go_loopw [5, 14] (fun o i wr => ∃ j : Nat, i = .int .i64 (j : Int) ∧ j ≤ 64 ∧ ∃ n : Nat, o = .int .i64 (n : Int) ∧ n ≤ 64 ∧ Hid (sharedN ps pc j = n ∧ wr = w)) (fun _ i _ => 64 - (intOf i).toNat)
  case atStart => exact ⟨0, rfl, by omega, 0, rfl, by omega, rfl, rfl⟩
  case round =>
    obtain ⟨j, rfl, hj, n, rfl, hn64, HC⟩ := hrel
    by_cases hlt : (j : Int) < 64
    · obtain ⟨p, hp⟩ : ∃ p, ps[j]? = some p := ⟨_, List.getElem?_eq_getElem (by rw [H.out.1.len]; omega)⟩
      obtain ⟨q, hq⟩ : ∃ q, pc[j]? = some q := ⟨_, List.getElem?_eq_getElem (by rw [H.out.2.len]; omega)⟩
      have c1 := H.out.1.get (j := 4) hp rfl
      have c2 := H.out.2.get (j := 4) hq rfl
      rw [← HC.out.2] at c1 c2
      have hs : sharedN ps pc (j + 1) = if sameCopy p q then n + 1 else n := by
        rw [sharedN_succ, HC.out.1, List.getD_eq_getElem?_getD, List.getD_eq_getElem?_getD, hp, hq]
        rfl
      have hnj : n ≤ j := by rw [← HC.out.1]; exact sharedN_le _ _ _
      unfold sameCopy at hs
      cases hpc : p.copy with
      | none =>
        rw [hpc] at c1 hs
        have HS := Lib.hid hs
        clear hp hq hs hpc
        dsimp only [ptr, Option.map] at c1 c2
        go_wp2
        exact ⟨⟨j + 1, by go_num, by omega, n, rfl, by omega, HS.out, HC.out.2⟩, by simp [intOf]; omega⟩
      | some g =>
        cases hqc : q.copy with
        | none =>
          rw [hpc] at c1 hs
          rw [hqc] at c2 hs
          have HS := Lib.hid hs
          clear hp hq hs hpc hqc
          dsimp only [ptr, Option.map] at c1 c2
          go_wp2
          exact ⟨⟨j + 1, by go_num, by omega, n, rfl, by omega, HS.out, HC.out.2⟩, by simp [intOf]; omega⟩
        | some g2 =>
          rw [hpc] at c1 hs
          rw [hqc] at c2 hs
          by_cases e : g = g2
          · subst e
            have hsame := eql82 g wr
            have HS := Lib.hid hs
            clear hp hq hs hpc hqc
            dsimp only [ptr, Option.map] at c1 c2
            go_wp2
            exact ⟨⟨j + 1, by go_num, by omega, n + 1, by go_num, by omega, by rw [HS.out]; simp, HC.out.2⟩, by simp [intOf]; omega⟩
          · have hne := neq82 e (H.out.1.frm p (List.mem_of_getElem? hp) g hpc).1 (H.out.2.frm q (List.mem_of_getElem? hq) g2 hqc).1
            rw [← HC.out.2] at hne
            have HS := Lib.hid (And.intro hs e)
            clear hp hq hs hpc hqc e
            dsimp only [ptr, Option.map] at c1 c2
            go_wp2
            exact ⟨⟨j + 1, by go_num, by omega, n, rfl, by omega, by rw [HS.out.1]; simp [HS.out.2], HC.out.2⟩, by simp [intOf]; omega⟩
    · have hj : j = 64 := by omega
      subst hj
      go_wp2
      go_ret
      rw [HC.out.1]
      exact ⟨rfl, HC.out.2⟩
end Go.Proofs.Ytkdlmnhkbockhaa
