/- The reference's length and best answer what ext and bestB tell. Conditions: those of each theorem. -/
import Derived.Test.YtcpiplfajgdohaaT14
import Derived.Test.YtcpiplfajgdohaaL4
namespace Go.Proofs.Ytcpiplfajgdohaa
open Go.RowKit Go.Shelf Go.BigFrame

theorem ext_stop {all : List UInt8} {at_ p n : Nat} (hn : n ≤ 131) (h : n < 131 → ¬ (at_ + n < all.length ∧ all.getD (p + n) 0 = all.getD (at_ + n) 0)) : ext all at_ p (131 - n) n = n := by
  rcases Nat.eq_or_lt_of_le hn with rfl | hlt
  · rfl
  · obtain ⟨m, hm⟩ : ∃ m, 131 - n = m + 1 := ⟨130 - n, by omega⟩
    rw [hm, ext, if_neg (h hlt)]

set_option maxRecDepth 100000 in
set_option maxHeartbeats 1000000 in
theorem length_ok (b o L c : Nat) (all : List UInt8) (at_ d : Nat) (w : World) (h : RdB w (some ⟨b, o, none⟩) L c all) (hL : L ≤ 5000000) (hat : at_ < L) (hd : 1 ≤ d) (hpd : d ≤ at_) :
    Calls Try.prog 38 #[.slice (some ⟨b, o, none⟩) L c, .int .i64 (at_ : Int), .int .i64 (d : Int)] w fun e w' => e = .returned (.int .i64 (ext all at_ (at_ - d) 131 0 : Nat)) ∧ New w w' := by
  have hal := h.blen
  have hcap := h.cap
  have H := Lib.hid (And.intro h hal)
  clear h hal
  have hatI : (at_ : Int) < L := by omega
  have hLI : (L : Int) ≤ 5000000 := by omega
  have hdI : (d : Int) ≤ at_ := by omega
  go_enter Try.func38, Try.ntmps38
  go_wp2
  go_loopw [7] (fun i wr => ∃ n : Nat, i = .int .i64 (n : Int) ∧ n ≤ 131 ∧ Hid (ext all at_ (at_ - d) 131 0 = ext all at_ (at_ - d) (131 - n) n) ∧ (∃ k, wr = w.drewN k)) (fun i _ => 131 - (intOf i).toNat)
  case atStart => exact ⟨0, rfl, by omega, rfl, 0, rfl⟩
  case round =>
    obtain ⟨n, rfl, hn131, Hn, k, rfl⟩ := hrel
    by_cases hnn : (n : Int) < 131
    · by_cases hle : (at_ : Int) + n < L
      · have hcp := H.out.1.byteD (at_ + n - d) (by have := H.out.2; omega)
        have hck := H.out.1.byteD (at_ + n) (by have := H.out.2; omega)
        have hcc1 : at_ + n < c := by omega
        have hcc2 : at_ + n - d < c := by omega
        have hl1 : (at_ : Int) + n - d < L := by omega
        have hl0 : 0 ≤ (at_ : Int) + n - d := by omega
        have hnn' : decide ((n : Int) < 131) = true := by simpa using hnn
        have hle' : decide ((at_ : Int) + n < L) = true := by simpa using hle
        by_cases heq : all.getD (at_ + n - d) 0 = all.getD (at_ + n) 0
        · have Heq := Lib.hid heq
          obtain ⟨y, hy⟩ : ∃ y, all.getD (at_ + n) 0 = y := ⟨_, rfl⟩
          rw [hy] at hck heq
          rw [heq] at hcp
          clear heq hy
          go_wp2_with fail
          go_quiet (fail)
          go_wp2
          refine ⟨⟨n + 1, by go_num, by omega, ?_, _, rfl⟩, by simp [intOf]; omega⟩
          obtain ⟨m, hm⟩ : ∃ m, 131 - n = m + 1 := ⟨130 - n, by omega⟩
          exact (Hn.out.trans (by rw [hm, ext, if_pos ⟨by have := H.out.2; omega, by rw [show at_ - d + n = at_ + n - d from by omega]; exact Heq.out⟩, show 131 - (n + 1) = m from by omega]) : ext all at_ (at_ - d) 131 0 = ext all at_ (at_ - d) (131 - (n + 1)) (n + 1))
        · have hyy : decide ((((all.getD (at_ + n) 0).toNat : Nat) : Int) = ((all.getD (at_ + n - d) 0).toNat : Nat)) = false := by
            rw [decide_eq_false_iff_not]
            intro hh
            exact heq (UInt8.toNat_inj.1 (by omega))
          have Heq := Lib.hid heq
          obtain ⟨y1, hy1⟩ : ∃ y, all.getD (at_ + n) 0 = y := ⟨_, rfl⟩
          obtain ⟨y2, hy2⟩ : ∃ y, all.getD (at_ + n - d) 0 = y := ⟨_, rfl⟩
          rw [hy1] at hck
          rw [hy2] at hcp
          rw [hy1, hy2] at hyy
          have hyy2 : ¬ y1.toNat = y2.toNat := fun h => by
            rw [decide_eq_false_iff_not] at hyy
            exact hyy (by rw [h])
          have hyy3 : ¬ y1 = y2 := fun h => hyy2 (by rw [h])
          clear hy1 hy2 heq
          go_wp2_with fail
          go_quiet (fail)
          go_wp2
          go_ret
          refine ⟨?_, ((Mod.refl _ w).drewN k).drewN nq⟩
          rw [Hn.out, ext_stop hn131 (fun _ h => Heq.out (by rw [show at_ + n - d = at_ - d + n from by omega]; exact h.2))]
          rfl
      · have hle' : decide ((at_ : Int) + n < L) = false := by simpa using hle
        have hnn' : decide ((n : Int) < 131) = true := by simpa using hnn
        go_wp2_with fail
        go_quiet (fail)
        go_wp2
        go_ret
        refine ⟨?_, ((Mod.refl _ w).drewN k).drewN nq⟩
        rw [Hn.out, ext_stop hn131 (fun _ h => by have := H.out.2; omega)]
        rfl
    · have hnn' : decide ((n : Int) < 131) = false := by simpa using hnn
      go_wp2_with fail
      go_quiet (fail)
      go_wp2
      go_ret
      refine ⟨?_, ((Mod.refl _ w).drewN k).drewN nq⟩
      rw [Hn.out, ext_stop hn131 (fun _ h => by omega)]
      rfl

set_option maxRecDepth 100000 in
set_option maxHeartbeats 1000000 in
theorem best_ok (b o L c : Nat) (all : List UInt8) (at_ : Nat) (w : World) (h : RdB w (some ⟨b, o, none⟩) L c all) (hL : L ≤ 5000000) (hat : at_ < L) :
    Calls Try.prog 30 #[.slice (some ⟨b, o, none⟩) L c, .int .i64 (at_ : Int)] w fun e w' => e = .returned (.tuple #[.int .i64 ((bestB all at_).1 : Nat), .int .i64 ((bestB all at_).2 : Nat)]) ∧ New w w' := by
  have H := Lib.hid h
  have hatI : (at_ : Int) < L := by omega
  have hLI : (L : Int) ≤ 5000000 := by omega
  clear h
  go_enter Try.func30, Try.ntmps30
  go_wp2
  go_loopw [6, 4, 5] (fun i n d wr => ∃ j x y : Nat, i = .int .i64 ((j + 1 : Nat) : Int) ∧ n = .int .i64 (x : Int) ∧ d = .int .i64 (y : Int) ∧ j ≤ 4096 ∧ j ≤ at_ ∧ x ≤ 131 ∧ y ≤ 4096 ∧ Hid (bst all at_ j = (x, y) ∧ New w wr)) (fun i _ _ _ => 4097 - (intOf i).toNat)
  case atStart => exact ⟨0, 0, 0, rfl, rfl, rfl, by omega, by omega, by omega, by omega, rfl, Mod.refl _ _⟩
  case round =>
    obtain ⟨j, x, y, rfl, rfl, rfl, hj, hja, hx, hy, Hj⟩ := hrel
    have hjI : ((j + 1 : Nat) : Int) = (j : Int) + 1 := by omega
    by_cases hin : (j : Int) + 1 ≤ 4096 ∧ (j : Int) + 1 ≤ at_
    · obtain ⟨hin1, hin2⟩ := hin
      have hex := (ext_bound all at_ (at_ - (j + 1)) 131 0).2
      obtain ⟨z, hz⟩ : ∃ z, ext all at_ (at_ - (j + 1)) 131 0 = z := ⟨_, rfl⟩
      have hz131 : (z : Int) ≤ 131 := by omega
      have Hz := Lib.hid hz
      clear hex hz
      by_cases hgt : (x : Int) < z
      · go_wp2_with (go_at_call 38; go_must (have hpk := length_ok b o L c all at_ (j + 1) wr (H.out.new Hj.out.2) (by omega) (by omega) (by omega) (by omega); rw [Hz.out, hjI] at hpk; refine hpk.mono ?_; clear hpk; rintro e w1 ⟨rfl, hn1⟩; have H1 := Lib.hid hn1; clear hn1))
        refine ⟨⟨j + 1, z, j + 1, by go_num, rfl, by go_num, by omega, by omega, by omega, by omega, ?_, Hj.out.2.trans H1.out (fun _ _ h => h)⟩, by simp [intOf]; omega⟩
        rw [bst, Hz.out, Hj.out.1, if_pos (by dsimp only; omega)]
      · go_wp2_with (go_at_call 38; go_must (have hpk := length_ok b o L c all at_ (j + 1) wr (H.out.new Hj.out.2) (by omega) (by omega) (by omega) (by omega); rw [Hz.out, hjI] at hpk; refine hpk.mono ?_; clear hpk; rintro e w1 ⟨rfl, hn1⟩; have H1 := Lib.hid hn1; clear hn1))
        refine ⟨⟨j + 1, x, y, by go_num, rfl, rfl, by omega, by omega, by omega, by omega, ?_, Hj.out.2.trans H1.out (fun _ _ h => h)⟩, by simp [intOf]; omega⟩
        rw [bst, Hz.out, Hj.out.1, if_neg (by dsimp only; omega)]
    · have hmin : min 4096 at_ = j := by omega
      have hbb : bestB all at_ = (x, y) := by rw [bestB, hmin]; exact Hj.out.1
      have Hb := Lib.hid hbb
      clear hbb
      by_cases hj4 : (j : Int) + 1 ≤ 4096
      · have hj5 : ¬ (j : Int) + 1 ≤ at_ := by omega
        clear hin
        go_wp2
        go_ret2
        rw [Hb.out]
        exact ⟨rfl, Hj.out.2⟩
      · clear hin
        go_wp2
        go_ret2
        rw [Hb.out]
        exact ⟨rfl, Hj.out.2⟩
end Go.Proofs.Ytcpiplfajgdohaa
