/- PackBack returns true. Conditions: those of the theorem. -/
import Derived.Test.YtcpiplfajgdohaaT14
import Derived.Test.YtcpiplfajgdohaaL1
namespace Go.Proofs.Ytcpiplfajgdohaa
open Go.RowKit Go.Shelf

theorem unpack_back (A1 : Option Addr) (n1 c1 : Nat) (d b : List UInt8) (PA : Option Addr) (pn pc m : Nat) (w : World) (h1 : RdB w A1 n1 c1 d) (hp : RdB w PA pn pc (packB d b)) (hm : b.length ≤ m) (hm' : (m : Int) ≤ 1048576) (hn : (n1 : Int) ≤ 1048576) :
    Calls Try.prog 17 #[.slice A1 n1 c1, .slice PA pn pc, .int .i64 (m : Int)] w fun e w' => ∃ A' c', e = .returned (.tuple #[.slice A' b.length c', .int .i64 0, .int .i64 0]) ∧ RdB w' A' b.length c' b ∧ New w w' := by
  have hpl := hp.blen
  have hdl := h1.blen
  have hle := packB_le d b
  refine (unpackWith_ok A1 n1 c1 PA pn pc m d (packB d b) w h1 hp hm' hn (by omega)).mono ?_
  rintro e w' ⟨A', c', n', rfl, hr, -, hnew⟩
  have hu := unp_packB m d b hm
  rw [hdl, hpl] at hu
  rw [hu] at hr ⊢
  simp only [Option.getD_some] at hr
  rw [← hdl, List.drop_left] at hr
  have hn' := hr.blen
  subst hn'
  exact ⟨A', c', rfl, hr, hnew⟩
theorem unpack_less (A1 : Option Addr) (n1 c1 : Nat) (d b : List UInt8) (PA : Option Addr) (pn pc : Nat) (m : Nat) (mi : Int) (w : World) (h1 : RdB w A1 n1 c1 d) (hp : RdB w PA pn pc (packB d b)) (hm : m < b.length) (hmi : mi = (m : Int)) (hb : (b.length : Int) ≤ 1048576) (hn : (n1 : Int) ≤ 1048576) :
    Calls Try.prog 17 #[.slice A1 n1 c1, .slice PA pn pc, .int .i64 mi] w fun e w' => ∃ A' c' at_, e = .returned (.tuple #[.slice A' 0 c', .int .i64 at_, .int .i64 5]) ∧ New w w' := by
  subst hmi
  have hpl := hp.blen
  have hdl := h1.blen
  have hle := packB_le d b
  refine (unpackWith_ok A1 n1 c1 PA pn pc m d (packB d b) w h1 hp (by omega) hn (by omega)).mono ?_
  rintro e w' ⟨A', c', n', rfl, hr, -, hnew⟩
  obtain ⟨at', hu⟩ := unp_packB_long m d b hm
  rw [hdl, hpl] at hu
  rw [hu] at hr ⊢
  simp only [Option.getD_none] at hr
  rw [← hdl, List.drop_length] at hr
  have hn' := hr.blen
  subst hn'
  exact ⟨A', c', _, rfl, hnew⟩

set_option maxRecDepth 100000 in
set_option maxHeartbeats 1000000 in
theorem packBack_ok (A1 : Option Addr) (n1 c1 : Nat) (d0 : List UInt8) (A2 : Option Addr) (n2 c2 : Nat) (b0 : List UInt8) (w : World) (h1 : RdB w A1 n1 c1 d0) (h2 : RdB w A2 n2 c2 b0) (hn1 : n1 ≤ 9223372036854775807) (hn2 : n2 ≤ 9223372036854775807) :
    Calls Try.prog 4 #[.slice A1 n1 c1, .slice A2 n2 c2] w fun e w' => e = .returned (.bool true) ∧ New w w' := by
  obtain ⟨d, hd⟩ : ∃ d, d0.take 400 = d := ⟨_, rfl⟩
  obtain ⟨b, hb⟩ : ∃ b, b0.take 400 = b := ⟨_, rfl⟩
  have H1 := Lib.hid h1
  have H2 := Lib.hid h2
  clear h1 h2
  have hbl : b.length = min n2 400 := by rw [← hb, List.length_take, H2.out.blen, Nat.min_comm]
  have hdl : d.length = min n1 400 := by rw [← hd, List.length_take, H1.out.blen, Nat.min_comm]
  go_enter Try.func4, Try.ntmps4
  go_wp2_with (first
    | (go_at_call 11; refine (cut_any A1 n1 c1 d0 w H1.out hn1).mono ?_; rintro e w1 ⟨m1, k1, rfl, hr1, he1, rfl⟩; rw [hd] at hr1; have H3 := Lib.hid hr1; have hm1 : (m1 : Int) ≤ 400 := (by omega); clear hr1 he1)
    | (go_at_call 11; refine (cut_any A2 n2 c2 b0 w H2.out hn2).mono ?_; rintro e w1 ⟨m2, k2, rfl, hr2, he2, rfl⟩; rw [hb] at hr2; have H4 := Lib.hid hr2; have hm2 : (m2 : Int) ≤ 400 := (by omega); have Hm2 := Lib.hid (show b.length = m2 from by omega); clear hr2 he2)
    | (go_at_call 12; go_must (refine (packWith_ok A1 m1 k1 d A2 m2 k2 b w H3.out H4.out (by omega) (by omega)).mono ?_; rintro e w1 ⟨PA, pc, rfl, hown, hnew⟩; obtain ⟨pn, hpn⟩ : ∃ pn, (packB d b).length = pn := ⟨_, rfl⟩; rw [hpn]; have hrp := OwnB.rd hown; rw [hpn] at hrp; have H5 := Lib.hid (And.intro hrp (And.intro hnew hpn)); clear hown hrp hnew hpn))
    | (go_at_call 17; go_must (refine (unpack_back A1 m1 k1 d b PA pn pc m2 w1 (H3.out.new H5.out.2.1) H5.out.1 (Nat.le_of_eq Hm2.out) (by omega) (by omega)).mono ?_; rintro e w2 ⟨UA, uc, rfl, hru, hnu⟩; rw [Hm2.out] at hru ⊢; have H6 := Lib.hid (And.intro hru hnu); clear hru hnu)))
  go_at_call 14
  refine (known_ok w2).mono ?_
  rintro e w3 ⟨rfl, hn3⟩
  have hs1 := run_str w3 (H6.out.1.new hn3)
  have hs2 := run_str w3 (((H4.out.new H5.out.2.1).new H6.out.2).new hn3)
  have H7 := Lib.hid hn3
  clear hn3
  by_cases hz : m2 = 0
  · have hz0 : pn = 0 := by have := packB_le d b; have := H5.out.2.2; have := Hm2.out; omega
    subst hz hz0
    go_wp2
    go_ret
    exact ⟨rfl, (H5.out.2.1.trans H6.out.2 (fun _ _ h => h)).trans H7.out (fun _ _ h => h)⟩
  · have hz1 : ¬ (m2 : Int) = 0 := by omega
    go_wp2_with (go_at_call 17; go_must (refine (unpack_less A1 m1 k1 d b PA pn pc (m2 - 1) _ w3 (((H3.out.new H5.out.2.1).new H6.out.2).new H7.out) ((H5.out.1.new H6.out.2).new H7.out) (by have := Hm2.out; omega) (by omega) (by have := Hm2.out; omega) (by omega)).mono ?_; rintro e w4 ⟨LA, lc, la, rfl, hn4⟩; have H8 := Lib.hid hn4; clear hn4))
    go_ret
    exact ⟨rfl, ((H5.out.2.1.trans H6.out.2 (fun _ _ h => h)).trans H7.out (fun _ _ h => h)).trans H8.out (fun _ _ h => h)⟩
end Go.Proofs.Ytcpiplfajgdohaa
