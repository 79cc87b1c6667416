/- The reference's Unpack answers what unp tells. Conditions: those of each theorem. -/
import Derived.Test.YtcpiplfajgdohaaT26
import Derived.Test.YtcpiplfajgdohaaT3
namespace Go.Proofs.Ytcpiplfajgdohaa
open Go.RowKit

set_option maxRecDepth 100000 in
set_option maxHeartbeats 400000 in
theorem runpack_mid {w wr w3 : World} {A' : Option Addr} {c' : Nat} {os : List UInt8} {Al : Option Addr} {cl : Nat} {lits : List UInt8} {size d l : Nat} (hown : OwnB wr w.heap.size A' c' os) (hnew : New w wr)
    (hol : OwnB w3 wr.heap.size Al cl lits) (hnl : New wr w3) :
    OwnB (w3.alloc (.cells #[.slice Al lits.length cl, .int .i64 d, .int .i64 l] 68)) w.heap.size A' c' os ∧ RdB (w3.alloc (.cells #[.slice Al lits.length cl, .int .i64 d, .int .i64 l] 68)) Al lits.length cl lits ∧
    Blk (w3.alloc (.cells #[.slice Al lits.length cl, .int .i64 d, .int .i64 l] 68)) w3.heap.size 68 #[.slice Al lits.length cl, .int .i64 d, .int .i64 l] ∧ ¬ At A' w3.heap.size ∧
    w.heap.size ≤ (w3.alloc (.cells #[.slice Al lits.length cl, .int .i64 d, .int .i64 l] 68)).heap.size ∧ New w (w3.alloc (.cells #[.slice Al lits.length cl, .int .i64 d, .int .i64 l] 68)) := by
  have ho := OwnV.new hown (hnl.alloc (.cells #[.slice Al lits.length cl, .int .i64 d, .int .i64 l] 68))
  have h1 := hnew.size
  have h2 := hnl.size
  refine ⟨ho, (OwnV.rd hol).new ((Mod.refl _ _).alloc _), Blk.fresh _ _ _, OwnV.at_ne ho (Blk.fresh w3 68 _) (by decide), by rw [World.size_alloc]; omega, (hnew.trans hnl (fun _ _ h => h)).alloc _⟩

set_option maxRecDepth 100000 in
set_option maxHeartbeats 1000000 in
theorem refUnpack_ok (A : Option Addr) (n c : Nat) (A2 : Option Addr) (n2 c2 : Nat) (most : Nat) (ds ps : List UInt8) (w : World) (hd : RdB w A n c ds) (hp : RdB w A2 n2 c2 ps) (hm : (most : Int) ≤ 1048576) (hn : (n : Int) ≤ 1048576) (hn2 : n2 ≤ 140737488351232) :
    Calls Try.prog 24 #[.slice A n c, .slice A2 n2 c2, .int .i64 most] w fun e w' => ∃ A' c' n', e = .returned (.tuple #[.slice A' n' c', .int .i64 ((unp most n n2 0 ps ds).2.1 : Nat), .int .i64 ((unp most n n2 0 ps ds).2.2 : Nat)]) ∧
      RdB w' A' n' c' ((((unp most n n2 0 ps ds).1).getD ds).drop n) ∧ (∀ ad, A' = some ad → w.heap.size ≤ ad.block) ∧ New w w' := by
  have Hd := Lib.hid hd
  have Hp := Lib.hid hp
  clear hd hp
  have hm0 : (0 : Int) ≤ most := by omega
  go_enter Try.func24, Try.ntmps24
  have Hm0 := Lib.hid ((Mod.refl (fun _ => False) w).alloc (.cells #[] 5))
  go_wp2_with (at_builtin; refine append_n rfl _ _ rfl w.heap.size _ 0 0 [] rfl rfl (own_lit0 w _ (Nat.le_refl _)) A n c ds rfl (Hd.out.new Hm0.out) ?ha Hm0.out.size ?_; (case ha => omega); intro A' c' w1 hown hm hb; rw [List.nil_append] at hown; have Hown := Lib.hid hown; have Hnew := Lib.hid (Hm0.out.trans hm (fun i hi hk => by simp [At] at hk; omega) : New w w1); clear hown hm hb)
  have hl1 := Hd.out.blen
  have hl2 := Hp.out.blen
  have Hl1 := Lib.hid hl1
  have Hl2 := Lib.hid hl2
  clear hl1 hl2
  go_loopw [10, 9] (fun u7 u9 wr => ∃ (k : Nat) (os : List UInt8) (A' : Option Addr) (c' : Nat), u7 = .int .i64 (k : Nat) ∧ u9 = .slice A' os.length c' ∧ k ≤ n2 ∧
      Hid (OwnV wr w.heap.size 5 (.slice A' os.length c') (bts os) ∧ New w wr ∧ n ≤ os.length ∧ os.length ≤ n + most ∧ unp most n (n2 - k) k (ps.drop k) os = unp most n n2 0 ps ds)) (fun u7 _ _ => n2 - (intOf u7).toNat)
  case atStart => exact ⟨0, ds, A', c', rfl, by rw [Hl1.out], Nat.zero_le _, Hown.out, Hnew.out, by rw [Hl1.out]; exact Nat.le_refl _, by rw [Hl1.out]; omega, rfl⟩
  case round =>
    obtain ⟨k, os, A', c', rfl, rfl, hk, Hr⟩ := hrel
    by_cases hlt : k < n2
    · obtain ⟨b2, o2, rfl⟩ := Hp.out.addr (by omega)
      have hp2 := Hp.out
      have hkc : k < c2 := by have := hp2.cap; omega
      obtain ⟨hown, hnew, hlo, hhi, htot⟩ := Hr.out
      have Hown2 := Lib.hid hown
      have Hnew2 := Lib.hid hnew
      clear hown hnew Hr
      have hr : RdB wr (some ⟨b2, o2 + k, none⟩) (n2 - k) (c2 - k) (ps.drop k) := by
        have hr := (hp2.new Hnew2.out).cut k n2 (c2 - k) (by omega) (Nat.le_refl _) (by have := hp2.cap; omega)
        rw [List.take_of_length_le (by rw [bts_length, Hl2.out]; exact Nat.le_refl _)] at hr
        simpa [RdB, bts] using hr
      clear hp2
      have Hr := Lib.hid hr
      clear hr
      obtain ⟨x, xs, hxs⟩ : ∃ x xs, ps.drop k = x :: xs := by
        rcases h : ps.drop k with _ | ⟨x, xs⟩
        · have := congrArg List.length h; rw [List.length_drop, Hl2.out] at this; simp at this; omega
        · exact ⟨x, xs, rfl⟩
      have hsz := nextE_size x xs
      rw [← hxs] at hsz
      have hstep : unp most n (n2 - k) k (ps.drop k) os = unp most n (n2 - k - 1 + 1) k (ps.drop k) os := by rw [show n2 - k - 1 + 1 = n2 - k from by omega]
      rw [unp, if_neg (by rw [hxs]; simp)] at hstep
      rw [hstep] at htot
      clear hstep
      have Hxs := Lib.hid hxs
      clear hxs
      have hcall := token_ok b2 o2 n2 c2 ps k wr (Hp.out.new Hnew2.out) hlt hn2
      unfold TokPost at hcall
      obtain ⟨⟨⟨lits, d, l⟩, size, er⟩, htk⟩ : ∃ tk, nextE (ps.drop k) = tk := ⟨_, rfl⟩
      rw [htk] at hsz htot hcall
      simp only at hsz htot hcall
      have Htk := Lib.hid htk
      have Htot := Lib.hid htot
      have Hsz := Lib.hid hsz
      have Hcall := Lib.hid hcall
      clear htk htot hsz hcall
      have hnone : ∀ w' : World, RdB w' none 0 0 ((none.getD ds).drop n) := fun w' => by
        rw [Option.getD_none, List.drop_eq_nil_of_le (by rw [Hl1.out]; exact Nat.le_refl _)]; exact RdV.nil _ _ _
      have Hnone := Lib.hid hnone
      clear hnone
      by_cases her : er = 0
      · subst her
        obtain ⟨hs1, hs2, hs3, hs4, hs5, hs6, hs7⟩ := Hsz.out rfl
        by_cases hd1 : os.length < d
        · have Hres : Hid (unp most n n2 0 ps ds = (none, k, 2)) := by have := Htot.out; rw [if_neg (by simp), if_pos hd1] at this; exact this.symm
          have hd1' : (os.length : Int) < d := by omega
          clear hs1 hs2 hs3 hs4 hs5 hs6 hs7 hd1
          go_wp2_with (go_at_call 33; refine Hcall.out.mono ?_; rintro e w3 ⟨Al, cl, rfl, hol, hnl⟩; have Hol := Lib.hid hol; have Hnl := Lib.hid hnl; clear hol hnl)
          go_ret3
          exact ⟨none, 0, 0, by simp only [Hres.out]; rfl, by rw [Hres.out]; exact Hnone.out _, by simp, (Hnew2.out.trans Hnl.out (fun _ _ h => h)).alloc _⟩
        · by_cases hm1 : most < os.length - n + lits.length + l
          · have Hres : Hid (unp most n n2 0 ps ds = (none, k, 5)) := by have := Htot.out; rw [if_neg (by simp), if_neg hd1, if_pos hm1] at this; exact this.symm
            have hd1' : (d : Int) ≤ os.length := by omega
            have hm1' : (most : Int) < os.length - n + lits.length + l := by omega
            have hb1 : (os.length : Int) ≤ 10000000 := by omega
            clear hs1 hs2 hs3 hs6 hs7 hd1 hm1
            go_wp2_with (go_at_call 33; refine Hcall.out.mono ?_; rintro e w3 ⟨Al, cl, rfl, hol, hnl⟩; have Hol := Lib.hid hol; have Hnl := Lib.hid hnl; clear hol hnl)
            go_ret3
            exact ⟨none, 0, 0, by simp only [Hres.out]; rfl, by rw [Hres.out]; exact Hnone.out _, by simp, (Hnew2.out.trans Hnl.out (fun _ _ h => h)).alloc _⟩
          · have Hres : Hid (unp most n (n2 - k - 1) (k + size) ((ps.drop k).drop size) (copyM d l (os ++ lits)) = unp most n n2 0 ps ds) := by have := Htot.out; rw [if_neg (by simp), if_neg hd1, if_neg hm1] at this; exact this
            have hd1' : (d : Int) ≤ os.length := by omega
            have hm1' : (os.length : Int) - n + lits.length + l ≤ most := by omega
            have hb1 : (os.length : Int) ≤ 10000000 := by omega
            have hs2' : size + k ≤ n2 := by rw [List.length_drop, Hl2.out] at hs2; omega
            clear hs2 hd1 hm1
            go_wp2_with (first | (go_at_call 33; refine Hcall.out.mono ?_; rintro e w3 ⟨Al, cl, rfl, hol, hnl⟩; have H3 := Lib.hid (runpack_mid (size := size) (d := d) (l := l) Hown2.out Hnew2.out hol hnl); clear hol hnl) | (at_builtin; go_must (refine append_b rfl _ _ rfl w.heap.size A' c' os rfl H3.out.1 Al lits.length cl lits rfl H3.out.2.1 ?ha H3.out.2.2.2.2.1 ?_; (case ha => omega); intro A4 c4 w4 hown4 hm4 hb4; have hB4 := H3.out.2.2.1.mod hm4 H3.out.2.2.2.1; have hc1 := hB4.cell 1 _ rfl; have hc2 := hB4.cell 2 _ rfl; have H4 := Lib.hid (And.intro hown4 (And.intro hm4 (And.intro hb4 hB4))); clear hown4 hm4 hb4 hB4)))
            have H4s : Hid (OwnB w4 w.heap.size A4 c4 (os ++ lits) ∧ New w w4) := by
              obtain ⟨h41, h42, h43, h44⟩ := H4.out
              exact ⟨h41, H3.out.2.2.2.2.2.trans h42 (fun i hi hk => by have := (OwnV.at_base H3.out.1 i hk).1; omega)⟩
            go_loopw [14, 9] (fun u72 u9 wi => ∃ (j : Nat) (oj : List UInt8) (Aj : Option Addr) (cj : Nat), u72 = .int .i64 (j : Nat) ∧ u9 = .slice Aj oj.length cj ∧ j ≤ l ∧
                Hid (OwnB wi w.heap.size Aj cj oj ∧ New w wi ∧ Blk wi w3.heap.size 68 #[.slice Al lits.length cl, .int .i64 d, .int .i64 l] ∧ oj.length = os.length + lits.length + j ∧ copyM d (l - j) oj = copyM d l (os ++ lits))) (fun u72 _ _ => l - (intOf u72).toNat)
            case atStart => exact ⟨0, os ++ lits, A4, c4, rfl, by rw [List.length_append], Nat.zero_le _, H4s.out.1, H4s.out.2, H4.out.2.2.2, by simp, rfl⟩
            case round =>
              obtain ⟨j, oj, Aj, cj, rfl, rfl, hj, Hi⟩ := hrel
              by_cases hjl : j < l
              · have hd0 : 0 < d := by omega
                obtain ⟨hi1, hi2, hi3, hi4, hi5⟩ := Hi.out
                obtain ⟨g, og, rfl⟩ := (OwnV.rd hi1).addr (by omega)
                have hcell := (OwnV.rd hi1).byteD (oj.length - d) (by omega)
                have hfd := hi3.cell 1 _ rfl
                have hfl := hi3.cell 2 _ rfl
                have hjb1 : (d : Int) ≤ oj.length := by omega
                have hjb2 : (oj.length : Int) ≤ 20000000 := by omega
                have hbase : w.heap.size ≤ wr.heap.size := hi2.size
                have hne : ¬ At (some ⟨g, og, none⟩) w3.heap.size := OwnV.at_ne hi1 hi3 (by decide)
                have Hi1 := Lib.hid (fun o => OwnV.new hi1 ((Mod.refl (fun _ => False) wr).alloc o))
                have Hi2 := Lib.hid (fun o => hi2.alloc o)
                have Hi3 := Lib.hid (fun o => hi3.alloc o)
                have Hne := Lib.hid hne
                have Hi4 := Lib.hid (And.intro hi4 hi5)
                clear Hi hi1 hi2 hi3 hi4 hi5 hne
                go_wp2_with (at_builtin; go_must (refine append_b rfl _ _ rfl w.heap.size (some ⟨g, og, none⟩) cj oj rfl (Hi1.out _) _ 1 1 _ rfl (rd_one _ _) ?ha ?hb ?_; (case ha => omega); (case hb => rw [World.size_alloc]; omega); intro A5 c5 w5 hown5 hm5 hb5; have H5 := Lib.hid (And.intro hown5 hm5); clear hown5 hm5 hb5))
                go_roundw
                case rel =>
                  obtain ⟨h51, h52⟩ := H5.out
                  obtain ⟨h41, h42⟩ := Hi4.out
                  refine ⟨j + 1, oj ++ [oj.getD (oj.length - d) 0], A5, c5, by go_num, by rw [List.length_append]; rfl, by omega, h51, (Hi2.out _).trans h52 (fun i hi hk => ?_), (Hi3.out _).mod h52 Hne.out, by simp; omega, ?_⟩
                  · have := (OwnV.at_base (Hi1.out (.deferred none)) i hk).1; omega
                  · rw [← h42, show l - j = (l - (j + 1)) + 1 from by omega, copyM]
                case measure => simp [intOf]; omega
              · obtain rfl : j = l := by omega
                obtain ⟨hi1, hi2, hi3, hi4, hi5⟩ := Hi.out
                have H6 := Lib.hid (And.intro hi1 (And.intro hi2 (And.intro hi4 hi5)))
                have hfl := hi3.cell 2 _ rfl
                clear Hi hi1 hi2 hi3 hi4 hi5
                go_wp2_with fail
                go_roundw
                case rel =>
                  obtain ⟨h61, h62, h63, h64⟩ := H6.out
                  rw [Nat.sub_self, copyM] at h64
                  refine ⟨k + size, oj, Aj, cj, by go_num, rfl, by omega, h61, h62, by omega, by omega, ?_⟩
                  rw [← Hres.out, h64, List.drop_drop]
                  exact unp_more _ _ _ _ _ _ _ (by rw [List.length_drop, Hl2.out]; omega) (by rw [List.length_drop, Hl2.out]; omega)
                case measure => simp [intOf]; omega
      · have Hres : Hid (unp most n n2 0 ps ds = (none, k, er)) := by have := Htot.out; rw [if_pos her] at this; exact this.symm
        have her' : (er : Int) ≠ 0 := by omega
        clear her
        go_wp2_with (go_at_call 33; refine Hcall.out.mono ?_; rintro e w3 ⟨Al, cl, rfl, hol, hnl⟩; have Hol := Lib.hid hol; have Hnl := Lib.hid hnl; clear hol hnl)
        go_ret3
        exact ⟨none, 0, 0, by simp only [Hres.out]; rfl, by rw [Hres.out]; exact Hnone.out _, by simp, (Hnew2.out.trans Hnl.out (fun _ _ h => h)).alloc _⟩
    · obtain rfl : k = n2 := by omega
      obtain ⟨hown, hnew, hlo, hhi, htot⟩ := Hr.out
      rw [show k - k = 0 from by omega, unp] at htot
      obtain ⟨A1, c1, hv, hrd, hcm, hblk, -⟩ := hown.form
      injection hv with hv1 hv2 hv3
      subst hv1 hv3
      have Htot := Lib.hid htot
      have Hrd := Lib.hid hrd
      have Hblk := Lib.hid hblk
      have Hnew2 := Lib.hid hnew
      have hcc : os.length ≤ c' := by have := hrd.cap; rw [bts_length] at this; exact this
      clear Hr hown hnew hrd htot hcm hblk
      rw [bts_length] at *
      have Hres : Hid (unp most n k 0 ps ds = (some os, 0, 0)) := Htot.out.symm
      by_cases hcn : c' = n
      · have hz : os.length = n := by omega
        go_wp2_with fail
        go_ret3
        refine ⟨A', 0, 0, by simp only [Hres.out]; rfl, ?_, fun ad h => (Hblk.out ad h).2, Hnew2.out⟩
        rw [Hres.out, Option.getD_some, List.drop_eq_nil_of_le (by omega)]
        exact RdV.nil _ _ _
      · go_wp2_with fail
        go_ret3
        refine ⟨A'.map (·.add n), c' - n, os.length - n, by simp only [Hres.out]; rfl, ?_, fun ad h => ?_, Hnew2.out⟩
        · rw [Hres.out, Option.getD_some]
          have := Hrd.out.cut_map n (c' - n) (by omega) (by omega)
          simpa [RdB, bts] using this
        · rcases A' with _ | ad'
          · cases h
          · injection h with h
            subst h
            rw [block_add]
            exact (Hblk.out ad' rfl).2
end Go.Proofs.Ytcpiplfajgdohaa
