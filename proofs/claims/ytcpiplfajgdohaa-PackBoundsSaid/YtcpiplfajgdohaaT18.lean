/- Bound, and PackBounds returns true. Conditions: those of each theorem. -/
import Derived.Test.YtcpiplfajgdohaaT15
import Derived.Test.YtcpiplfajgdohaaL3
namespace Go.Proofs.Ytcpiplfajgdohaa
open Go.RowKit Go.Shelf

theorem bound_ok (x : Int) (w : World) (h0 : 0 ≤ x) (h1 : x ≤ 1048576) : Calls Try.prog 19 #[.int .i64 x] w fun e w' => e = .returned (.tuple #[.int .i64 (x + (x + 127) / 128), .int .i64 0]) ∧ w = w' := by
  have h2 : ¬ x < 0 := by omega
  have h3 : ¬ 1048576 < x := by omega
  go_enter Try.func19, Try.ntmps19
  go_wp2
  go_ret2
  have : x + 128 - 1 = x + 127 := by omega
  rw [this]
  exact ⟨rfl, rfl⟩
theorem bound_no (x : Int) (w : World) (h : x < 0 ∨ 1048576 < x) : Calls Try.prog 19 #[.int .i64 x] w fun e w' => e = .returned (.tuple #[.int .i64 0, .int .i64 2]) ∧ w = w' := by
  by_cases h2 : x < 0
  · go_enter Try.func19, Try.ntmps19
    go_wp2
    go_ret2
    exact ⟨rfl, rfl⟩
  · have h3 : 1048576 < x := by omega
    clear h
    go_enter Try.func19, Try.ntmps19
    go_wp2
    go_ret2
    exact ⟨rfl, rfl⟩
theorem refBound_ok (x : Int) (w : World) (h0 : 0 ≤ x) (h1 : x ≤ 1048576) : Calls Try.prog 20 #[.int .i64 x] w fun e w' => e = .returned (.int .i64 (x + (x + 127) / 128)) ∧ w = w' := by
  go_enter Try.func20, Try.ntmps20
  go_wp2
  go_ret
  have : x + 128 - 1 = x + 127 := by omega
  rw [this]
  exact ⟨rfl, rfl⟩

/-- Bound of any number: its two answers. -/
def bnd (x : Int) : Int × Int := if x < 0 ∨ 1048576 < x then (0, 2) else (x + (x + 127) / 128, 0)
theorem bound_any (x : Int) (w : World) : Calls Try.prog 19 #[.int .i64 x] w fun e w' => e = .returned (.tuple #[.int .i64 (bnd x).1, .int .i64 (bnd x).2]) ∧ w = w' := by
  by_cases h : x < 0 ∨ 1048576 < x
  · rw [bnd, if_pos h]
    exact bound_no x w h
  · rw [bnd, if_neg h]
    exact bound_ok x w (by omega) (by omega)
theorem bnd_nat (m : Nat) (h : m ≤ 1048576) : bnd m = ((m : Int) + ((m : Int) + 127) / 128, 0) := by rw [bnd, if_neg (by omega)]

set_option maxRecDepth 100000 in
set_option maxHeartbeats 1000000 in
theorem packBounds_ok (A1 : Option Addr) (n1 c1 : Nat) (d0 : List UInt8) (A2 : Option Addr) (n2 c2 : Nat) (b0 : List UInt8) (x : Int) (w : World) (h1 : RdB w A1 n1 c1 d0) (h2 : RdB w A2 n2 c2 b0) (hn1 : n1 ≤ 9223372036854775807) (hn2 : n2 ≤ 9223372036854775807) :
    Calls Try.prog 7 #[.slice A1 n1 c1, .slice A2 n2 c2, .int .i64 x] w fun e w' => e = .returned (.bool true) ∧ New w w' := by
  obtain ⟨d, hd⟩ : ∃ d, d0.take 400 = d := ⟨_, rfl⟩
  obtain ⟨b, hb⟩ : ∃ b, b0.take 400 = b := ⟨_, rfl⟩
  have H1 := Lib.hid h1
  have H2 := Lib.hid h2
  clear h1 h2
  have hbl : b.length = min n2 400 := by rw [← hb, List.length_take, H2.out.blen, Nat.min_comm]
  have hdl : d.length = min n1 400 := by rw [← hd, List.length_take, H1.out.blen, Nat.min_comm]
  obtain ⟨u, v, huv⟩ : ∃ u v, bnd x = (u, v) := ⟨_, _, rfl⟩
  have HU := Lib.hid huv
  have HL := Lib.hid (And.intro hbl hdl)
  clear huv hbl hdl
  go_enter Try.func7, Try.ntmps7
  go_wp2_with (first
    | (go_at_call 11; (refine (cut_any A1 n1 c1 d0 w H1.out hn1).mono ?_; rintro e w1 ⟨m1, k1, rfl, hr1, he1, rfl⟩; rw [hd] at hr1; have H3 := Lib.hid hr1; have hm1 : (m1 : Int) ≤ 400 := (by omega); clear hr1 he1))
    | (go_at_call 11; (refine (cut_any A2 n2 c2 b0 w H2.out hn2).mono ?_; rintro e w1 ⟨m2, k2, rfl, hr2, he2, rfl⟩; rw [hb] at hr2; have H4 := Lib.hid hr2; have hm2 : (m2 : Int) ≤ 400 := (by omega); have Hm2 := Lib.hid (show b.length = m2 from (by have := HL.out.1; omega)); clear hr2 he2))
    | (go_at_call 19; refine (bound_any _ _).mono ?_; rintro e w1 ⟨rfl, rfl⟩; first | rw [HU.out] | rw [bnd_nat m2 (by omega)])
    | (go_at_call 12; go_must (have hpk := packWith_ok A1 m1 k1 d A2 m2 k2 b w H3.out H4.out (by omega) (by omega); refine hpk.mono ?_; clear hpk; rintro e w1 ⟨PA, pc, rfl, hown, hnew⟩; obtain ⟨pn, hpn⟩ : ∃ pn, (packB d b).length = pn := ⟨_, rfl⟩; rw [hpn]; have hpb : ¬ ((m2 : Int) + ((m2 : Int) + 127) / 128 < (pn : Int)) := (by have h1 := packB_bound d b; have h2 := Hm2.out; omega); have H5 := Lib.hid hnew; clear hown hnew hpn))
    | (go_at_call 13; go_must (have hpk := pack_ok A2 m2 k2 b w1 (H4.out.new H5.out) (by omega); refine hpk.mono ?_; clear hpk; rintro e w2 ⟨QA, qc, rfl, hown, hnew⟩; obtain ⟨qn, hqn⟩ : ∃ qn, (packB [] b).length = qn := ⟨_, rfl⟩; rw [hqn]; have hqb : ¬ ((m2 : Int) + ((m2 : Int) + 127) / 128 < (qn : Int)) := (by have h1 := packB_bound [] b; have h2 := Hm2.out; omega); have H6 := Lib.hid hnew; clear hown hnew hqn)))
  go_at_call 14
  refine (known_ok w2).mono ?_
  rintro e w3 ⟨rfl, hn3⟩
  have H7 := Lib.hid hn3
  clear hn3
  have hpb' : ¬ ((m2 : Int) + ((m2 : Int) + 127) / 128 < (pn : Int)) := by omega
  have hqb' : ¬ ((m2 : Int) + ((m2 : Int) + 127) / 128 < (qn : Int)) := by omega
  have HN := Lib.hid ((H5.out.trans H6.out (fun _ _ h => h)).trans H7.out (fun _ _ h => h))
  by_cases hx : x < 0 ∨ 1048576 < x
  · have hu := HU.out
    rw [bnd, if_pos hx] at hu
    simp only [Prod.mk.injEq] at hu
    obtain ⟨rfl, rfl⟩ := hu
    clear HU
    by_cases hx0 : x < 0
    · clear hx
      go_wp2
      go_ret
      exact ⟨rfl, HN.out⟩
    · have hx1 : 1048576 < x := by omega
      clear hx
      go_wp2
      go_ret
      exact ⟨rfl, HN.out⟩
  · have hu := HU.out
    rw [bnd, if_neg hx] at hu
    simp only [Prod.mk.injEq] at hu
    obtain ⟨rfl, rfl⟩ := hu
    have hx0 : ¬ x < 0 := by omega
    have hx1 : ¬ 1048576 < x := by omega
    clear hx HU
    go_wp2_with (go_at_call 20; refine (refBound_ok x _ (by omega) (by omega)).mono ?_; rintro e w4 ⟨rfl, rfl⟩)
    go_ret
    exact ⟨by simp, HN.out⟩
end Go.Proofs.Ytcpiplfajgdohaa
