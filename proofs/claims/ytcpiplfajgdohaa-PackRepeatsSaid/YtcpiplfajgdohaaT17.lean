/- PackRepeats returns true. Conditions: those of the theorem. -/
import Derived.Test.YtcpiplfajgdohaaT16
import Derived.Test.YtcpiplfajgdohaaL3
namespace Go.Proofs.Ytcpiplfajgdohaa
open Go.RowKit Go.Shelf

attribute [local go_sem] min_run max_run
set_option maxRecDepth 100000 in
set_option maxHeartbeats 1000000 in
theorem packRepeats_ok (A : Option Addr) (n c : Nat) (b0 : List UInt8) (x : UInt8) (w : World) (h : RdB w A n c b0) (hn : n ≤ 9223372036854775807) :
    Calls Try.prog 5 #[.slice A n c, .int .u8 (x.toNat : Int)] w fun e w' => e = .returned (.bool true) ∧ New w w' := by
  obtain ⟨m, hm⟩ : ∃ m, m = min n 20 := ⟨_, rfl⟩
  have hif : (if (20 : Int) < (n : Int) then 20 else (n : Int)) = (m : Int) := by split <;> omega
  have hmn : (m : Int) ≤ n := by omega
  have hm20 : (m : Int) ≤ 20 := by omega
  have hmc : m ≤ c := by have := h.cap; omega
  have hb := RdB.takeN h m (by omega)
  obtain ⟨b, hbb⟩ : ∃ b, b0.take m = b := ⟨_, rfl⟩
  rw [hbb] at hb
  have hbl := hb.blen
  have Hb := Lib.hid (And.intro hb hbl)
  obtain ⟨t, ht⟩ : ∃ t, t = x.toNat % 201 := ⟨_, rfl⟩
  have htm : ((x.toNat : Int).tmod 201) = (t : Int) := by rw [Int.tmod_eq_emod_of_nonneg (by omega)]; omega
  have ht200 : t ≤ 200 := by omega
  clear hm h hb hbb hbl ht
  go_enter Try.func5, Try.ntmps5
  go_wp2
  go_loopw [6, 5] (fun i v wr => ∃ k al A' c', i = .int .i64 ((k : Nat) : Int) ∧ v = .slice A' al c' ∧ k ≤ t ∧ (al : Int) = (k : Int) * m ∧ Hid (OwnB wr w.heap.size A' c' (rep b k) ∧ New w wr ∧ (rep b k).length = al)) (fun i _ _ => t - (intOf i).toNat)
  case atStart =>
    exact ⟨0, 0, none, 0, rfl, rfl, by omega, by simp, OwnV.nil _ _ _, Mod.refl _ _, rfl⟩
  case round =>
    obtain ⟨k, al, A', c', rfl, rfl, hk, hal, Hk⟩ := hrel
    have hx : (x.toNat : Int) < 256 := by have := x.toNat_lt; omega
    have hal2 : (al : Int) ≤ 4000 := by
      have h1 : (k : Int) * m ≤ 200 * 20 := Int.mul_le_mul (by omega) (by omega) (by omega) (by omega)
      omega
    by_cases hlt : (k : Int) < t
    · go_wp2_with (at_builtin; go_must (refine append_n rfl _ _ rfl w.heap.size A' al c' (rep b k) rfl Hk.out.2.2 Hk.out.1 A m c b rfl (Hb.out.1.new Hk.out.2.1) ?ha Hk.out.2.1.size ?_; (case ha => omega); intro A4 c4 w4 hown hm hbk; have H4 := Lib.hid (And.intro hown (Hk.out.2.1.trans hm (fun i hi hk' => by have := (OwnV.at_base Hk.out.1 i hk').1; omega))); clear hown hm hbk))
      refine ⟨⟨k + 1, al + m, A4, c4, by go_num, rfl, by omega, by rw [Int.natCast_add, hal, Int.natCast_add, Int.add_mul]; simp, H4.out.1, H4.out.2, ?_⟩, by simp [intOf]; omega⟩
      rw [rep, List.length_append, Hk.out.2.2, Hb.out.2]
    · obtain ⟨all, hall⟩ : ∃ all, rep b k = all := ⟨_, rfl⟩
      have hrd := OwnB.rd Hk.out.1
      rw [hall] at hrd
      have hl := Hk.out.2.2
      rw [hall] at hl
      rw [hl] at hrd
      have HA := Lib.hid (And.intro hrd (And.intro hl (And.intro hall Hk.out.2.1)))
      clear hall hl hrd Hk
      have hA6 : (al : Int) ≤ 1048576 := by omega
      have hB6 : al ≤ 4000 := by omega
      clear hal
      go_wp2_with (first
        | (go_at_call 13; go_must (have hpk := pack_ok A' al c' all wr HA.out.1 hA6; refine hpk.mono ?_; clear hpk; rintro e w1 ⟨PA, pc, rfl, hown, hnew⟩; obtain ⟨pn, hpn⟩ : ∃ pn, (packB [] all).length = pn := ⟨_, rfl⟩; rw [hpn]; have hrp := OwnB.rd hown; rw [hpn] at hrp; have hpn2 : (pn : Int) ≤ 8000 := (by have := packB_le [] all; have := HA.out.2.1; omega); have H5 := Lib.hid (And.intro hrp (And.intro hnew hpn)); clear hown hrp hnew hpn))
        | (go_at_call 18; go_must (have hpk := unpack_some PA pn pc al (packB [] all) all w1 H5.out.1 (by omega) (by omega) (by have := unp_packB al [] all (by have := HA.out.2.1; omega); rw [H5.out.2.2] at this; exact this); refine hpk.mono ?_; clear hpk; rintro e w2 ⟨UA, uc, rfl, hru, hnu⟩; rw [HA.out.2.1] at hru ⊢; have H6 := Lib.hid (And.intro hru hnu); clear hru hnu))
        | (go_at_call 14; go_must (refine (known_ok w2).mono ?_; rintro e w3 ⟨rfl, hn3⟩; have hs1 := run_str w3 (H6.out.1.new hn3); have hs2 := run_str w3 (((HA.out.1.new H5.out.2.1).new H6.out.2).new hn3); have H7 := Lib.hid hn3; clear hn3)))
      have hfin : (pn : Int) ≤ (m : Int) + 1 + 3 * (((al : Int) + 130) / 131) + 4 := by
        have h1 := packB_rep b k (by have := Hb.out.2; omega)
        rw [HA.out.2.2.1, H5.out.2.2, HA.out.2.1, Hb.out.2] at h1
        omega
      go_ret
      exact ⟨by simpa using hfin, ((HA.out.2.2.2.trans H5.out.2.1 (fun _ _ h => h)).trans H6.out.2 (fun _ _ h => h)).trans H7.out (fun _ _ h => h)⟩
end Go.Proofs.Ytcpiplfajgdohaa
