/- source: the map of a source's pages. Conditions: those of each theorem. -/
import Derived.Test.YtkdlmnhkbockhaaM2
import Derived.StillTailTactics
import Derived.Lib.PathFns
namespace Go.Proofs.Ytkdlmnhkbockhaa
open Go.RowKit Go.Maps

abbrev Fl := UInt8 × List UInt8
/-- A slice of pages, read. -/
structure RdL (w : World) (A : Option Addr) (m c : Nat) (l : List Fl) : Prop where
  len : l.length = m
  cap : m ≤ c
  cells : 0 < m → ∃ b o, A = some ⟨b, o, none⟩ ∧ ∀ j x, l[j]? = some x → w.cell? ⟨b, o + j * 2, none⟩ = some (.int .u8 (x.1.toNat : Int)) ∧ w.cell? ⟨b, o + j * 2 + 1, none⟩ = some (.string ⟨x.2.toArray⟩)
  size : ∀ x ∈ l, x.2.length ≤ 9223372036854775807
theorem RdL.mod {w w' : World} {A : Option Addr} {m c : Nat} {l : List Fl} (h : RdL w A m c l) (hm : New w w') : RdL w' A m c l :=
  ⟨h.len, h.cap, fun hp => by
    obtain ⟨b, o, hA, hc⟩ := h.cells hp
    exact ⟨b, o, hA, fun j x hx => ⟨hm.cell (hc j x hx).1 (fun h => h), hm.cell (hc j x hx).2 (fun h => h)⟩⟩, h.size⟩

/-- The map that source makes, and how many entries it has. -/
def putF (s : (Int → Option (List UInt8)) × Nat) (x : Fl) : (Int → Option (List UInt8)) × Nat :=
  (fun j => if j = ((x.1.toNat % 64 : Nat) : Int) then some (x.2.take 70) else s.1 j, if (s.1 ((x.1.toNat % 64 : Nat) : Int)).isSome then s.2 else s.2 + 1)
def srcF (l : List Fl) : (Int → Option (List UInt8)) × Nat := (l.take 8).foldl putF (fun _ => none, 0)

set_option maxRecDepth 100000 in
set_option maxHeartbeats 1000000 in
theorem source_ok (A : Option Addr) (m c : Nat) (l : List Fl) (w : World) (h : RdL w A m c l) (hm : m ≤ 9223372036854775807) :
    Calls Try.prog 10 #[.slice A m c] w fun e w' => e = .returned (.map (some w.heap.size)) ∧ MapV elS w' w.heap.size (srcF l).1 (srcF l).2 ∧ New w w' := by
  have hmm := @run_makeMap Try.prog
  have H := Lib.hid h
  clear h
  go_enter Try.func10, Try.ntmps10
  go_wp2
  go_loopw [4] (fun i wr => ∃ j : Nat, i = .int .i64 (j : Int) ∧ j ≤ m ∧ j ≤ 8 ∧ Hid (MapV elS wr w.heap.size ((l.take j).foldl putF (fun _ => none, 0)).1 ((l.take j).foldl putF (fun _ => none, 0)).2 ∧ ((l.take j).foldl putF (fun _ => none, 0)).2 ≤ j ∧ New w wr)) (fun i _ => 8 - (intOf i).toNat)
  case atStart => exact ⟨0, rfl, by omega, by omega, MapV.made _ _, Nat.le_refl _, (Mod.refl _ _).alloc _⟩
  case round =>
    obtain ⟨j, rfl, hj, hj8, HC⟩ := hrel
    by_cases hlt : (j : Int) < m
    · have hd : decide ((j : Int) < m) = true := decide_eq_true hlt
      by_cases hlt8 : (j : Int) < 8
      · have hd8 : decide ((j : Int) < 8) = true := decide_eq_true hlt8
        obtain ⟨x, hx⟩ : ∃ x, l[j]? = some x := ⟨_, List.getElem?_eq_getElem (by have := H.out.len; omega)⟩
        obtain ⟨b, o, hA, hcells⟩ := H.out.cells (by omega)
        subst hA
        obtain ⟨g0, g1⟩ := hcells j x hx
        have g0' := HC.out.2.2.cell g0 (fun h => h)
        have g1' := HC.out.2.2.cell g1 (fun h => h)
        obtain ⟨k, hk⟩ : ∃ k, x.1.toNat % 64 = k := ⟨_, rfl⟩
        have hkI : (x.1.toNat : Int) % 64 = (k : Int) := by omega
        have hxs := H.out.size x (List.mem_of_getElem? hx)
        have hsl : (⟨x.2.toArray⟩ : ByteArray).size = x.2.length := rfl
        obtain ⟨q, hq⟩ : ∃ q : Nat, min x.2.length 70 = q := ⟨_, rfl⟩
        have hqx : (q : Int) ≤ x.2.length := by omega
        have hmin : ∀ ats ty w, (Builtin.min_ ats ty #[.int .i64 (x.2.length : Int), .int .i64 70]).run Try.prog w = .ok (.int .i64 (q : Int)) w := fun ats ty w => by
          rw [min_run]
          congr 2
          split <;> omega
        have hex : (⟨x.2.toArray⟩ : ByteArray).extract 0 q = ⟨(x.2.take 70).toArray⟩ := by
          rw [Go.Lib.Pa.extract_upto]
          show (⟨(x.2.take q).toArray⟩ : ByteArray) = _
          rw [← hq, Nat.min_comm, ← List.take_eq_take_min]
        have ht1 : (x.1.toNat : Int).tmod 64 = (k : Int) := by rw [Int.tmod_eq_emod_of_nonneg (by omega)]; exact hkI
        have hk64 : k < 64 := by omega
        have ht2 : IntKind.i64.wrap (k : Int) = k := IntWalk.i64_in _ (by omega)
        have hwf : (Lit.int .i64 (k : Int)).wf = true := by
          have h1 : IntKind.i64.min = -9223372036854775808 := rfl
          have h2 : IntKind.i64.max = 9223372036854775807 := rfl
          simp only [Lit.wf, Bool.and_eq_true, decide_eq_true_eq]
          omega
        have hmx : maxLen = 9223372036854775807 := rfl
        obtain ⟨w2, hr, hm2, hmod, hsz⟩ := (HC.out.1.mod (S := fun _ => False) ((Mod.refl _ _).drew) (fun h => h)).store hwf (v := x.2.take 70) (show (x.2.take 70).length ≤ maxLen by rw [List.length_take]; omega) (by have := HC.out.2.1; omega)
        change (Instr.mapUpdate 25 (.map (some w.heap.size)) (.int .i64 (k : Int)) (.string ⟨(x.2.take 70).toArray⟩)).run Try.prog wr.drew = .ok () w2 at hr
        have HX := Lib.hid (And.intro hx (And.intro hk (And.intro hm2 hmod)))
        clear g0 g1 hcells hx hk hq hm2 hmod hsz hwf hmx
        go_wp2
        refine wp_region_still_tail 21 (by kernel_rfl) (by kernel_rfl) ?_
        change wpStill _ _ (World.drew _) (fun a' => wpList _ _ _ _ a' (World.drew _)) _ _
        simp only [List.take_succ_cons, List.take_zero, List.drop_succ_cons, List.drop_zero]
        repeat still_step
        try refine wpStill_nil ?_
        go_wp2
        obtain ⟨hx, hk, hm2, hmod⟩ := HX.out
        have ht : l.take (j + 1) = l.take j ++ [x] := by rw [List.take_add_one, hx]; rfl
        have hf : (l.take (j + 1)).foldl putF (fun _ => none, 0) = putF ((l.take j).foldl putF (fun _ => none, 0)) x := by rw [ht, List.foldl_append]; rfl
        have hnw : New w w2 := HC.out.2.2.drew.trans hmod fun i hi e => by omega
        refine ⟨⟨j + 1, by go_num, by omega, by omega, ?_, ?_, hnw⟩, by simp [intOf]; omega⟩
        · rw [hf, putF, hk]
          exact hm2
        · rw [hf, putF, hk]
          have := HC.out.2.1
          dsimp only
          split <;> omega
      · have hd8 : decide ((j : Int) < 8) = false := decide_eq_false hlt8
        go_wp2
        go_ret
        have hj : j = 8 := by omega
        subst hj
        exact ⟨rfl, HC.out.1, HC.out.2.2⟩
    · have hd : decide ((j : Int) < m) = false := decide_eq_false hlt
      go_wp2
      go_ret
      have hj : j = m := by omega
      subst hj
      have ht : l.take j = l.take 8 := by rw [List.take_of_length_le (by have := H.out.len; omega), List.take_of_length_le (by have := H.out.len; omega)]
      have hm := HC.out.1
      rw [ht] at hm
      exact ⟨rfl, hm, HC.out.2.2⟩
end Go.Proofs.Ytkdlmnhkbockhaa
