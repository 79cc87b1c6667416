/- Tokens answers a row of the tokens. Conditions: those of each theorem. -/
import Derived.Test.YtcpiplfajgdohaaB2
import Derived.Test.YtcpiplfajgdohaaL5
namespace Go.Proofs.Ytcpiplfajgdohaa
open Go.RowKit Go.Shelf

theorem i47 : (Try.prog.info? 47).map (fun i => (i.zero, i.size, i.bytes)) = some (some (.agg #[.slice none 0 0, .int .i64 0, .int .i64 0]), 3, 40) := by kernel_rfl
theorem blk_p47 (w : World) (A : Option Addr) (n c : Nat) (ls : List UInt8) (d l : Nat) (hn : ls.length = n) : Blk (w.alloc (.cells #[.slice A n c, .int .i64 (d : Int), .int .i64 (l : Int)] 47)) w.heap.size 47 (ptC ⟨A, c, ls, d, l⟩).toArray := by
  subst hn
  exact Blk.fresh w 47 _

set_option maxRecDepth 100000 in
set_option maxHeartbeats 1000000 in
theorem tokens_ok (A : Option Addr) (n c : Nat) (ps : List UInt8) (l : List Tk) (w : World) (h : RdB w A n c ps) (hn : n ≤ 2000000) (hl : prs n ps = some l) :
    Calls Try.prog 21 #[.slice A n c] w fun e w' => ∃ A' c' ts, e = .returned (.tuple #[.slice A' ts.length c', .int .i64 0, .int .i64 0]) ∧ OwnT w' w.heap.size 47 A' c' ts ∧ ts.map PT.tk = l ∧ New w w' := by
  have H := Lib.hid (And.intro h h.blen)
  have Hl := Lib.hid hl
  clear h hl
  go_enter Try.func21, Try.ntmps21
  go_wp2
  go_loopw [3, 2] (fun i o wr => ∃ (k : Nat) (Ao : Option Addr) (co : Nat) (ts : List PT) (tn : Nat), i = .int .i64 (k : Int) ∧ o = .slice Ao tn co ∧ k ≤ n ∧ tn ≤ k ∧ Hid (OwnT wr w.heap.size 47 Ao co ts ∧ ts.length = tn ∧ New w wr ∧ (prs (n - k) (ps.drop k)).map (ts.map PT.tk ++ ·) = some l)) (fun i _ _ => n - (intOf i).toNat)
  case atStart => exact ⟨0, none, 0, [], 0, rfl, rfl, by omega, by omega, OwnT.nil _ _ _, rfl, Mod.refl _ _, by rw [List.drop_zero, Nat.sub_zero, Hl.out]; rfl⟩
  case round =>
    obtain ⟨k, Ao, co, ts, tn, rfl, rfl, hk, htn, HC⟩ := hrel
    by_cases hlt : (k : Int) < n
    · have hrd := H.out.1
      obtain ⟨b, o, rfl⟩ := hrd.addr (by omega)
      have hkc : k < c := by have := hrd.cap; omega
      have hr : RdB wr (some ⟨b, o + k, none⟩) (n - k) (c - k) (ps.drop k) := by
        have hr := (hrd.new HC.out.2.2.1).cut k n (c - k) (by omega) (Nat.le_refl _) (by have := hrd.cap; omega)
        rw [List.take_of_length_le (by rw [bts_length, H.out.2]; exact Nat.le_refl _)] at hr
        simpa [RdB, bts] using hr
      clear hrd
      have hprs := HC.out.2.2.2
      obtain ⟨f, hf⟩ : ∃ f, n - k = f + 1 := ⟨n - k - 1, by omega⟩
      have hdl : (ps.drop k).length = n - k := by rw [List.length_drop, H.out.2]
      rw [hf, prs, if_neg (by omega)] at hprs
      obtain ⟨x, xs, hxs⟩ : ∃ x xs, ps.drop k = x :: xs := by
        rcases h : ps.drop k with _ | ⟨x, xs⟩
        · rw [h] at hdl; simp at hdl; omega
        · exact ⟨x, xs, rfl⟩
      have hsz := nextE_size x xs
      rw [← hxs] at hsz
      have hcall := next_any b (o + k) (n - k) (c - k) (ps.drop k) wr hr (by omega) (by omega)
      obtain ⟨⟨⟨lits, d, m⟩, size, er⟩, htk⟩ : ∃ tk, nextE (ps.drop k) = tk := ⟨_, rfl⟩
      rw [htk] at hsz hprs hcall
      dsimp only at hsz hprs hcall
      have her : er = 0 := by
        rcases Nat.eq_zero_or_pos er with h | h
        · exact h
        · rw [if_pos (by omega)] at hprs; simp at hprs
      subst her
      rw [if_neg (by simp)] at hprs
      have hs := hsz rfl
      have hs1 : 0 < (size : Int) := by omega
      have hs2 : (k : Int) + size ≤ n := by omega
      have hm131 : (m : Int) ≤ 131 := by omega
      have hd4 : (d : Int) ≤ 4096 := by omega
      have hl128 : (lits.length : Int) ≤ 128 := by omega
      obtain ⟨ln, hln⟩ : ∃ ln, lits.length = ln := ⟨_, rfl⟩
      rw [hln] at hcall hl128
      have HP := Lib.hid (And.intro hprs (And.intro hf hln))
      have Hcall := Lib.hid hcall
      clear hprs hf hcall hs hsz hxs htk hdl hr hln
      go_wp2_with (first
        | (go_at_call 32; with_reducible (refine Hcall.out.mono ?_); rintro e w3 ⟨Al, cl, rfl, hol, hnl⟩; have H3 := Lib.hid (HC.out.2.2.1.trans hnl (fun _ _ h => h) : New w w3); have H3o := Lib.hid (HC.out.1.new hnl); clear hol hnl)
        | (at_builtin; have hb := blk_p47 (w3.alloc (.cells #[.slice Al ln cl, .int .i64 (d : Int), .int .i64 (m : Int)] 47)) Al ln cl lits d m HP.out.2.2; rw [World.size_alloc] at hb; refine wpList_append_t 43 rfl _ _ rfl Try.underlying43 i47 rfl w.heap.size Ao tn co ts rfl HC.out.2.1 (H3o.out.new (((Mod.refl _ _).alloc _).alloc _)) (w3.heap.size + 1) ⟨Al, cl, lits, d, m⟩ rfl hb ?ha ?hb ?_; (case ha => omega); (case hb => rw [World.size_alloc, World.size_alloc]; have := H3.out.size; omega); intro A6 c6 w6 hown hm hbk; have H6 := Lib.hid (And.intro hown ((H3.out.trans (((Mod.refl (fun _ => False) w3).alloc _).alloc _) (fun _ _ h => h)).trans hm (fun i hi hk' => by have := (HC.out.1.at_base i hk').1; omega) : New w w6)); clear hown hm hbk hb))
      refine ⟨⟨k + size, A6, c6, ts ++ [⟨Al, cl, lits, d, m⟩], tn + 1, by go_num, rfl, by omega, by omega, H6.out.1, by rw [List.length_append, HC.out.2.1]; rfl, H6.out.2, ?_⟩, by simp [intOf]; omega⟩
      have hp := HP.out.1
      rw [List.drop_drop] at hp
      have hle : (ps.drop (k + size)).length ≤ f ∧ (ps.drop (k + size)).length ≤ n - (k + size) := by
        rw [List.length_drop, H.out.2]
        have := HP.out.2.1
        omega
      rw [prs_more f (n - (k + size)) _ hle.1 hle.2] at hp
      rw [← hp, Option.map_map]
      congr 1
      funext z
      simp [PT.tk]
    · have hk2 : n - k = 0 := by omega
      have hprs := HC.out.2.2.2
      rw [hk2, prs] at hprs
      have HP := Lib.hid hprs
      clear hprs hk2
      go_wp2
      go_ret3
      refine ⟨Ao, co, ts, by rw [HC.out.2.1]; rfl, HC.out.1, ?_, HC.out.2.2.1⟩
      have := HP.out
      simpa using this
end Go.Proofs.Ytcpiplfajgdohaa
