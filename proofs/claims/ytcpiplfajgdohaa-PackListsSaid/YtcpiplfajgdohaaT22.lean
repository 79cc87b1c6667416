/- PackForms returns true. Conditions: those of each theorem. -/
import Derived.Test.YtcpiplfajgdohaaT21
import Derived.Test.YtcpiplfajgdohaaT15
import Derived.Deep.RegionHeld
namespace Go.Proofs.Ytcpiplfajgdohaa
open Go.RowKit Go.Shelf

theorem best_ok2 {all : List UInt8} {at_ : Nat} (h : 4 ≤ (bestB all at_).1) : 1 ≤ (bestB all at_).2 ∧ (bestB all at_).2 ≤ 4096 ∧ (bestB all at_).1 ≤ 131 := by
  rcases find_best all at_ with ⟨h1, _⟩ | ⟨_, h2⟩
  · omega
  · have hm := (findB_isM all at_).resolve_left (by rw [h2]; dsimp only; omega)
    rw [h2] at hm
    obtain ⟨m1, m2, m3, m4, m5, m6, m7⟩ := hm
    exact ⟨m1, m3, m5⟩
theorem runT_ok {run : List UInt8} (h : run.length ≤ 128) : ∀ t ∈ runT run, tkOk t := by
  intro t ht
  unfold runT at ht
  split at ht
  · simp only [List.mem_cons, List.not_mem_nil, or_false] at ht
    subst ht
    exact .inl ⟨rfl, by dsimp only; omega, h⟩
  · cases ht
theorem cn_ok (all : List UInt8) : ∀ (f at_ : Nat) (run : List UInt8), run.length < 128 → ∀ t ∈ cn all f at_ run, tkOk t
  | 0, at_, run, h, t, ht => runT_ok (by omega) t ht
  | f + 1, at_, run, h, t, ht => by
    unfold cn at ht
    have hl : (run ++ [all.getD at_ 0]).length = run.length + 1 := by simp
    split at ht
    · split at ht
      · split at ht
        · rename_i h128
          rcases List.mem_cons.1 ht with rfl | ht
          · exact .inl ⟨rfl, by dsimp only; omega, by dsimp only; omega⟩
          · exact cn_ok all f _ [] (by decide) t ht
        · exact cn_ok all f _ _ (by omega) t ht
      · rename_i hb
        have := best_ok2 (all := all) (at_ := at_) (by omega)
        rcases List.mem_append.1 ht with ht | ht
        · exact runT_ok (by omega) t ht
        · rcases List.mem_cons.1 ht with rfl | ht
          · exact .inr ⟨this.1, this.2.1, by dsimp only; omega, this.2.2⟩
          · exact cn_ok all f _ [] (by decide) t ht
    · exact runT_ok (by omega) t ht
theorem runT_length (run : List UInt8) : (runT run).length ≤ 1 := by
  unfold runT
  split <;> simp
theorem cn_length (all : List UInt8) : ∀ (f at_ : Nat) (run : List UInt8), (cn all f at_ run).length ≤ 2 * (all.length - at_) + 1
  | 0, at_, run => by have := runT_length run; rw [cn]; omega
  | f + 1, at_, run => by
    have := runT_length run
    unfold cn
    split
    · split
      · split
        · have := cn_length all f (at_ + 1) []
          rw [List.length_cons]
          omega
        · have := cn_length all f (at_ + 1) (run ++ [all.getD at_ 0])
          omega
      · have := cn_length all f (at_ + (bestB all at_).1) []
        rw [List.length_append, List.length_cons]
        omega
    · omega

/-- Canonical, and Bytes of it. -/
theorem canon_bytes (A1 : Option Addr) (n1 c1 : Nat) (d : List UInt8) (A2 : Option Addr) (n2 c2 : Nat) (b : List UInt8) (w : World) (h1 : RdB w A1 n1 c1 d) (h2 : RdB w A2 n2 c2 b) (hn1 : (n1 : Int) ≤ 4096) (hn2 : (n2 : Int) ≤ 400000) :
    Calls Try.prog 16 #[.slice A1 n1 c1, .slice A2 n2 c2] w fun e w' => ∃ A c n, e = .returned (.slice A n c) ∧ New w w' ∧ ∀ w3, New w' w3 → Calls Try.prog 15 #[.slice A n c] w3 fun e w4 => ∃ A' c', e = .returned (.slice A' (packB d b).length c') ∧ OwnB w4 w3.heap.size A' c' (packB d b) ∧ New w3 w4 := by
  refine (canonical_ok A1 n1 c1 d A2 n2 c2 b w h1 h2 (by omega) (by omega)).mono ?_
  rintro e w' ⟨A, c, ts, rfl, hown, hls, hts, hnew⟩
  refine ⟨A, c, ts.length, rfl, hnew, fun w3 hn3 => ?_⟩
  have hb := packB_cn d b (by have := h1.blen; omega)
  rw [← hts] at hb
  rw [hb]
  refine bytes_ok w.heap.size A c ts ts.length w3 (hown.new hn3) (fun t ht => (hls t ht).new hn3) (fun t ht => ?_) rfl ?_
  · refine cn_ok (d ++ b) b.length d.length [] (by decide) t.tk ?_
    rw [← hts]
    exact List.mem_map_of_mem ht
  · have := cn_length (d ++ b) b.length d.length []
    rw [← hts, List.length_map, List.length_append] at this
    have := h1.blen
    have := h2.blen
    omega

set_option maxRecDepth 100000 in
set_option maxHeartbeats 1000000 in
theorem packForms_ok (A1 : Option Addr) (n1 c1 : Nat) (d0 : List UInt8) (A2 : Option Addr) (n2 c2 : Nat) (b0 : List UInt8) (w : World) (h1 : RdB w A1 n1 c1 d0) (h2 : RdB w A2 n2 c2 b0) (hn1 : n1 ≤ 9223372036854775807) (hn2 : n2 ≤ 9223372036854775807) :
    Calls Try.prog 3 #[.slice A1 n1 c1, .slice A2 n2 c2] w fun e w' => e = .returned (.bool true) ∧ New w w' := by
  obtain ⟨d, hd⟩ : ∃ d, d0.take 400 = d := ⟨_, rfl⟩
  obtain ⟨b, hb⟩ : ∃ b, b0.take 400 = b := ⟨_, rfl⟩
  have H1 := Lib.hid h1
  have H2 := Lib.hid h2
  clear h1 h2
  go_enter Try.func3, Try.ntmps3
  go_wp2_with (first
    | (go_at_call 11; (refine (cut_any A1 n1 c1 d0 w H1.out hn1).mono ?_; rintro e w1 ⟨m1, k1, rfl, hr1, he1, rfl⟩; rw [hd] at hr1; have H3 := Lib.hid hr1; have hm1 : (m1 : Int) ≤ 400 := (by omega); clear hr1 he1))
    | (go_at_call 11; (refine (cut_any A2 n2 c2 b0 w H2.out hn2).mono ?_; rintro e w1 ⟨m2, k2, rfl, hr2, he2, rfl⟩; rw [hb] at hr2; have H4 := Lib.hid hr2; have hm2 : (m2 : Int) ≤ 400 := (by omega); clear hr2 he2)))
  have hs1 : ∀ j, (convert 22 9 (.slice A1 m1 k1)).run Try.prog (w.drewN j) = .ok (.string ⟨d.toArray⟩) (w.drewN j) := fun j => run_str _ (H3.out.new ((Mod.refl _ _).drewN j))
  have hs2 : ∀ j, (convert 22 9 (.slice A2 m2 k2)).run Try.prog (w.drewN j) = .ok (.string ⟨b.toArray⟩) (w.drewN j) := fun j => run_str _ (H4.out.new ((Mod.refl _ _).drewN j))
  go_quiet (fail)
  clear hs1 hs2
  obtain ⟨W, hW⟩ : ∃ W, w.drewN nq = W := ⟨_, rfl⟩
  have hnW : New w W := hW ▸ (Mod.refl _ _).drewN nq
  rw [hW]
  have HW := Lib.hid hnW
  clear hW hnW
  go_wp2_with (first
    | (go_at_call 12; go_must (have hpk := packWith_ok A1 m1 k1 d A2 m2 k2 b W (H3.out.new HW.out) (H4.out.new HW.out) (by omega) (by omega); refine hpk.mono ?_; clear hpk; rintro e w1 ⟨PA, pc, rfl, hown, hnew⟩; obtain ⟨pn, hpn⟩ : ∃ pn, (packB d b).length = pn := ⟨_, rfl⟩; rw [hpn]; have hrp := OwnB.rd hown; rw [hpn] at hrp; have H5 := Lib.hid (And.intro hrp (And.intro hnew hpn)); clear hown hrp hnew hpn))
    | (go_at_call 13; go_must (have hpk := pack_ok A2 m2 k2 b w1 ((H4.out.new HW.out).new H5.out.2.1) (by omega); refine hpk.mono ?_; clear hpk; rintro e w2 ⟨QA, qc, rfl, hown, hnew⟩; obtain ⟨qn, hqn⟩ : ∃ qn, (packB [] b).length = qn := ⟨_, rfl⟩; rw [hqn]; have hrp := OwnB.rd hown; rw [hqn] at hrp; have H6 := Lib.hid (And.intro hrp (And.intro hnew hqn)); clear hown hrp hnew hqn)))
  have hS1 : ∀ Z, New w2 Z → (convert 22 9 (.slice A1 m1 k1)).run Try.prog Z = .ok (.string ⟨d.toArray⟩) Z := fun Z hZ => run_str _ ((((H3.out.new HW.out).new H5.out.2.1).new H6.out.2.1).new hZ)
  have hS2 : ∀ Z, New w2 Z → (convert 22 9 (.slice A2 m2 k2)).run Try.prog Z = .ok (.string ⟨b.toArray⟩) Z := fun Z hZ => run_str _ ((((H4.out.new HW.out).new H5.out.2.1).new H6.out.2.1).new hZ)
  have hS3 : ∀ Z, New w2 Z → (convert 22 9 (.slice PA pn pc)).run Try.prog Z = .ok (.string ⟨(packB d b).toArray⟩) Z := fun Z hZ => run_str _ ((H5.out.1.new H6.out.2.1).new hZ)
  have hS4 : ∀ Z, New w2 Z → (convert 22 9 (.slice QA qn qc)).run Try.prog Z = .ok (.string ⟨(packB [] b).toArray⟩) Z := fun Z hZ => run_str _ (H6.out.1.new hZ)
  have HR1 := Lib.hid (fun Z hZ => canon_bytes A1 m1 k1 d A2 m2 k2 b Z ((((H3.out.new HW.out).new H5.out.2.1).new H6.out.2.1).new hZ) ((((H4.out.new HW.out).new H5.out.2.1).new H6.out.2.1).new hZ) (by omega) (by omega) : ∀ Z, New w2 Z → _)
  have HR2 := Lib.hid (fun Z hZ => canon_bytes none 0 0 [] A2 m2 k2 b Z (RdV.nil _ _ _) ((((H4.out.new HW.out).new H5.out.2.1).new H6.out.2.1).new hZ) (by omega) (by omega) : ∀ Z, New w2 Z → _)
  go_region_held (fun Z => New w2 Z) (first | assumption | exact (Mod.refl _ _).drew) (first
    | (go_at_call 14; refine (known_ok _).mono ?_; rintro e w3 ⟨rfl, hn3⟩; have hN3 : New w2 w3 := Mod.trans (by assumption) hn3 (fun _ _ h => h); clear hn3)
    | (go_at_call 16; with_reducible (refine (HR1.out _ (by assumption)).mono ?_); rintro e w4 ⟨A4, c4, n4, rfl, hn4, hby⟩; have hN4 : New w2 w4 := Mod.trans (by assumption) hn4 (fun _ _ h => h); have H7 := Lib.hid (hby _ (Mod.refl _ _)); clear hn4 hby)
    | (go_at_call 15; with_reducible (refine H7.out.mono ?_); rintro e w5 ⟨A5, c5, rfl, hown, hn5⟩; have hs5 := run_str w5 (OwnB.rd hown); have hN5 : New w2 w5 := Mod.trans (by assumption) hn5 (fun _ _ h => h); clear hn5 hown)
    | (go_at_call 16; with_reducible (refine (HR2.out _ (by assumption)).mono ?_); rintro e w6 ⟨A6, c6, n6, rfl, hn6, hby⟩; have hN6 : New w2 w6 := Mod.trans (by assumption) hn6 (fun _ _ h => h); have H8 := Lib.hid (hby _ (Mod.refl _ _)); clear hn6 hby)
    | (go_at_call 15; with_reducible (refine H8.out.mono ?_); rintro e w7 ⟨A7, c7, rfl, hown, hn7⟩; have hs7 := run_str w7 (OwnB.rd hown); have hN7 : New w2 w7 := Mod.trans (by assumption) hn7 (fun _ _ h => h); clear hn7 hown))
  go_wp2
  go_ret
  exact ⟨rfl, ((HW.out.trans H5.out.2.1 (fun _ _ h => h)).trans H6.out.2.1 (fun _ _ h => h)).trans hN7 (fun _ _ h => h)⟩
end Go.Proofs.Ytcpiplfajgdohaa
