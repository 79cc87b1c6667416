/- PackBeginnings returns true. Conditions: those of the theorem. -/
import Derived.Test.YtcpiplfajgdohaaT15
import Derived.Test.YtcpiplfajgdohaaL2
namespace Go.Proofs.Ytcpiplfajgdohaa
open Go.RowKit Go.Shelf

theorem unpack_some (A : Option Addr) (n c : Nat) (most : Nat) (ps r : List UInt8) (w : World) (hp : RdB w A n c ps) (hm : (most : Int) ≤ 1048576) (hn : n ≤ 140737488351232) (hu : unp most 0 n 0 ps [] = (some r, 0, 0)) :
    Calls Try.prog 18 #[.slice A n c, .int .i64 (most : Int)] w fun e w' => ∃ A' c', e = .returned (.tuple #[.slice A' r.length c', .int .i64 0, .int .i64 0]) ∧ RdB w' A' r.length c' r ∧ New w w' := by
  refine (unpack_ok A n c most ps w hp hm hn).mono ?_
  rintro e w' ⟨A', c', n', rfl, hr, -, hnew⟩
  rw [hu] at hr ⊢
  simp only [Option.getD_some] at hr
  have hn' := hr.blen
  subst hn'
  exact ⟨A', c', rfl, hr, hnew⟩
theorem unpack_none (A : Option Addr) (n c : Nat) (most : Nat) (ps : List UInt8) (w : World) (hp : RdB w A n c ps) (hm : (most : Int) ≤ 1048576) (hn : n ≤ 140737488351232) (a er : Nat) (hu : unp most 0 n 0 ps [] = (none, a, er)) :
    Calls Try.prog 18 #[.slice A n c, .int .i64 (most : Int)] w fun e w' => ∃ A' c', e = .returned (.tuple #[.slice A' 0 c', .int .i64 (a : Nat), .int .i64 (er : Nat)]) ∧ New w w' := by
  refine (unpack_ok A n c most ps w hp hm hn).mono ?_
  rintro e w' ⟨A', c', n', rfl, hr, -, hnew⟩
  rw [hu] at hr ⊢
  simp only [Option.getD_none] at hr
  have hn' := hr.blen
  subst hn'
  exact ⟨A', c', rfl, hnew⟩

theorem RdB.takeN {w : World} {A : Option Addr} {n c : Nat} {xs : List UInt8} (h : RdB w A n c xs) (m : Nat) (hm : m ≤ n) : RdB w A m c (xs.take m) := by
  have := RdV.takeN h m hm
  rwa [show (bts xs).take m = bts (xs.take m) from by simp [bts, List.map_take]] at this

attribute [local go_sem] min_run max_run
set_option maxRecDepth 100000 in
set_option maxHeartbeats 1000000 in
theorem packBeginnings_ok (A : Option Addr) (n c : Nat) (b0 : List UInt8) (w : World) (h : RdB w A n c b0) (hn : n ≤ 9223372036854775807) :
    Calls Try.prog 6 #[.slice A n c] w fun e w' => e = .returned (.bool true) ∧ New w w' := by
  obtain ⟨m, hm⟩ : ∃ m, m = min n 300 := ⟨_, rfl⟩
  have hif : (if (300 : Int) < (n : Int) then 300 else (n : Int)) = (m : Int) := by split <;> omega
  have hmn : (m : Int) ≤ n := by omega
  have hm300 : (m : Int) ≤ 300 := by omega
  have hmc : m ≤ c := by have := h.cap; omega
  have hb := RdB.takeN h m (by omega)
  obtain ⟨b, hbb⟩ : ∃ b, b0.take m = b := ⟨_, rfl⟩
  rw [hbb] at hb
  have hbl := hb.blen
  have Hb := Lib.hid (And.intro hb hbl)
  clear hm h hb hbb hbl
  go_enter Try.func6, Try.ntmps6
  go_wp2_with (first
    | (go_at_call 13; go_must (refine (pack_ok A m c b w Hb.out.1 (by omega)).mono ?_; rintro e w1 ⟨PA, pc, rfl, hown, hnew⟩; obtain ⟨pn, hpn⟩ : ∃ pn, (packB [] b).length = pn := ⟨_, rfl⟩; rw [hpn]; have hrp := OwnB.rd hown; rw [hpn] at hrp; have hpn2 : (pn : Int) ≤ 600 := (by have := packB_le [] b; have := Hb.out.2; omega); have hpc : pn ≤ pc := hrp.cap; have H5 := Lib.hid (And.intro hrp (And.intro hnew hpn)); clear hown hrp hnew hpn))
    | (go_at_call 14; go_must (refine (known_ok w1).mono ?_; rintro e w3 ⟨rfl, hn3⟩; have H7 := Lib.hid hn3; clear hn3)))
  have hN3 : New w w3 := H5.out.2.1.trans H7.out (fun _ _ h => h)
  have HN := Lib.hid (And.intro hN3 (And.intro (H5.out.1.new H7.out) (Hb.out.1.new hN3)))
  clear hN3
  go_loopw [5] (fun i wr => ∃ k : Nat, i = .int .i64 (k : Int) ∧ k ≤ pn + 1 ∧ Hid (New w3 wr)) (fun i _ => pn + 1 - (intOf i).toNat)
  case atStart => exact ⟨0, rfl, by omega, Mod.refl _ _⟩
  case round =>
    obtain ⟨k, rfl, hk, Hk⟩ := hrel
    by_cases hlt : (k : Int) ≤ pn
    · have hkc : k ≤ pc := by omega
      have hrk := RdB.takeN (HN.out.2.1.new Hk.out) k (by omega)
      have hbig := unp_packB m [] b (by have := Hb.out.2; omega)
      rw [List.length_nil, List.nil_append] at hbig
      rcases unp_beginning m 0 _ 0 (packB [] b) [] b (Nat.le_refl _) hbig k k 0 (by rw [List.length_take]; omega) with ⟨r, hu, hpre⟩ | ⟨a, hu⟩
      · have hrl : r.length ≤ m := by have := hpre.length_le; have := Hb.out.2; omega
        have hc := unpack_some PA k pc m ((packB [] b).take k) r wr hrk (by omega) (by omega) hu
        have Hc := Lib.hid (And.intro hc hpre)
        have hrb : (r.length : Int) ≤ m := by omega
        have hrc : r.length ≤ c := by omega
        clear hc hrk hbig hu hpre
        go_wp2_with (go_at_call 18; go_must (refine Hc.out.1.mono ?_; rintro e w4 ⟨UA, uc, rfl, hru, hnu⟩; have hB4 := (HN.out.2.2.new Hk.out).new hnu; have hs1 : ∀ j, (convert 22 9 (.slice UA r.length uc)).run Try.prog (w4.drewN j) = .ok (.string ⟨r.toArray⟩) (w4.drewN j) := (fun j => run_str _ (hru.new ((Mod.refl _ _).drewN j))); have hs2 : ∀ j, (convert 22 9 (.slice A r.length c)).run Try.prog (w4.drewN j) = .ok (.string ⟨r.toArray⟩) (w4.drewN j) := (fun j => by have h1 := RdB.takeN (hB4.new ((Mod.refl (fun _ => False) _).drewN j)) r.length (by omega); rw [← List.prefix_iff_eq_take.1 Hc.out.2] at h1; exact run_str _ h1); have H8 := Lib.hid hnu; clear hru hnu hB4))
        have hdl : decide ((m : Int) < (r.length : Int)) = false := by simpa using hrb
        go_quiet (fail)
        go_wp2
        refine ⟨⟨k + 1, by go_num, by omega, ((Hk.out.trans H8.out (fun _ _ h => h)).drewN nq : New w3 _)⟩, by simp [intOf]; omega⟩
      · have hc := unpack_none PA k pc m ((packB [] b).take k) wr hrk (by omega) (by omega) a 28 hu
        have Hc := Lib.hid hc
        clear hc hrk hbig hu
        go_wp2_with (go_at_call 18; go_must (refine Hc.out.mono ?_; rintro e w4 ⟨UA, uc, rfl, hnu⟩; have H8 := Lib.hid hnu; clear hnu))
        refine ⟨⟨k + 1, by go_num, by omega, (Hk.out.trans H8.out (fun _ _ h => h) : New w3 _)⟩, by simp [intOf]; omega⟩
    · go_wp2
      go_ret
      exact ⟨rfl, HN.out.1.trans Hk.out (fun _ _ h => h)⟩
end Go.Proofs.Ytcpiplfajgdohaa
