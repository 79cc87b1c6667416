/- PackWindow returns true. Conditions: those of each theorem. -/
import Derived.Test.YtcpiplfajgdohaaT24
import Derived.Test.YtcpiplfajgdohaaT16
namespace Go.Proofs.Ytcpiplfajgdohaa
open Go.RowKit Go.Shelf

/-- The mark. -/
def mkOf (b : List UInt8) (k : Nat) : List UInt8 := (b.take k).map fun x => UInt8.ofNat (200 + x.toNat % 56)
theorem mkOf_length (b : List UInt8) (k : Nat) (h : k ≤ b.length) : (mkOf b k).length = k := by simp [mkOf]; omega
theorem mkOf_succ (b : List UInt8) (k : Nat) (h : k < b.length) : mkOf b (k + 1) = mkOf b k ++ [UInt8.ofNat (200 + (b.getD k 0).toNat % 56)] := by
  unfold mkOf
  rw [take_succ_getD b k h, List.map_append]
  rfl
theorem mkOf_big (b : List UInt8) (k : Nat) : ∀ x ∈ mkOf b k, 200 ≤ x.toNat := by
  intro x hx
  simp only [mkOf, List.mem_map] at hx
  obtain ⟨y, _, rfl⟩ := hx
  rw [UInt8.toNat_ofNat']
  omega

theorem rd_pair (w : World) (j : Nat) (h : (j : Int) ≤ 5000) : RdB (w.alloc (.cells #[.int .u8 ((j : Int) % 256), .int .u8 ((j : Int) / 256 + 100)] 5)) (some ⟨w.heap.size, 0, none⟩) 2 2 [UInt8.ofNat j, UInt8.ofNat (j / 256 + 100)] := by
  have e1 : ((UInt8.ofNat j).toNat : Int) = (j : Int) % 256 := by rw [UInt8.toNat_ofNat']; omega
  have e2 : ((UInt8.ofNat (j / 256 + 100)).toNat : Int) = (j : Int) / 256 + 100 := by rw [UInt8.toNat_ofNat']; omega
  rw [← e1, ← e2]
  exact ⟨rfl, Nat.le_refl _, fun _ => ⟨_, _, rfl, fun i u hu => by
    have := (Blk.fresh w 5 #[.int .u8 ((UInt8.ofNat j).toNat : Int), .int .u8 ((UInt8.ofNat (j / 256 + 100)).toNat : Int)]).cell (0 + i) u
    rw [Nat.zero_add] at this ⊢
    exact this (by simpa [bts, B8] using hu)⟩⟩
theorem OwnT.len_le {w : World} {base : Nat} {e : TypeId} {A : Option Addr} {c : Nat} {l : List PT} (h : OwnT w base e A c l) : l.length ≤ 9223372036854775807 := by
  rcases h.2 with ⟨_, hn⟩ | ⟨g, cap, cur, _, _, _, hnc, hcm, _, _⟩
  · omega
  · simp only [maxLen] at hcm; omega
theorem win_last {m : List UInt8} {k g : Nat} (hm : m.length = k) (hb : ∀ x ∈ m, 200 ≤ x.toNat) (h30 : k ≤ 30) (h1 : ¬ g = 0) (h2 : ¬ k < 4) (h3 : ¬ 4096 < k + 2 * g) {ts : List PT} {l : List Tk} (hl : prs (packB [] (m ++ prsOf g ++ m)).length (packB [] (m ++ prsOf g ++ m)) = some l) (ht : ts.map PT.tk = l) :
    0 < ts.length ∧ ∃ t, ts[ts.length - 1]? = some t ∧ t.d = k + 2 * g ∧ t.l = k := by
  obtain ⟨l', hw⟩ := (Win.last (all := m ++ prsOf g ++ m) (m := m) (gap := g) ⟨rfl, hb, by omega, by omega, by omega, by omega⟩)
  rw [hw] at hl
  injection hl with hl
  rw [← hl] at ht
  have hlen := congrArg List.length ht
  rw [List.length_map, List.length_append] at hlen
  simp only [List.length_cons, List.length_nil] at hlen
  refine ⟨by omega, ts[ts.length - 1]'(by omega), List.getElem?_eq_getElem _, ?_⟩
  have h9 : (ts.map PT.tk)[ts.length - 1]? = some ([], m.length + 2 * g, m.length) := by
    rw [ht, List.getElem?_append_right (by omega), show ts.length - 1 - l'.length = 0 from by omega]
    rfl
  rw [List.getElem?_map, List.getElem?_eq_getElem (by omega)] at h9
  simp only [Option.map_some, PT.tk, Option.some.injEq, Prod.mk.injEq] at h9
  rw [← hm]
  exact ⟨h9.2.1, h9.2.2⟩

attribute [local go_sem] min_run max_run
set_option maxRecDepth 100000 in
set_option maxHeartbeats 1000000 in
theorem packWindow_ok (A : Option Addr) (n c : Nat) (b0 : List UInt8) (x : Int) (w : World) (h : RdB w A n c b0) (hn : n ≤ 9223372036854775807) :
    Calls Try.prog 8 #[.slice A n c, .int .i64 x] w fun e w' => e = .returned (.bool true) ∧ New w w' := by
  obtain ⟨y, hmax⟩ : ∃ y : Int, (if x < 0 then 0 else x) = y := ⟨_, rfl⟩
  have hy0 : 0 ≤ y := by split at hmax <;> omega
  obtain ⟨g, hg⟩ : ∃ g : Nat, (if (5000 : Int) < y then 5000 else y) = (g : Int) := ⟨(if (5000 : Int) < y then 5000 else y).toNat, by split <;> omega⟩
  have hg5 : (g : Int) ≤ 5000 := by split at hg <;> omega
  clear hy0
  have H := Lib.hid (And.intro h h.blen)
  have hcap := h.cap
  clear h
  go_enter Try.func8, Try.ntmps8
  go_wp2
  go_loopw [6, 5] (fun i v wr => ∃ (k : Nat) (A' : Option Addr) (c' : Nat), i = .int .i64 (k : Int) ∧ v = .slice A' k c' ∧ k ≤ n ∧ k ≤ 30 ∧ Hid (OwnB wr w.heap.size A' c' (mkOf b0 k) ∧ New w wr)) (fun i _ _ => 30 - (intOf i).toNat)
  case atStart => exact ⟨0, none, 0, rfl, rfl, by omega, by omega, OwnV.nil _ _ _, Mod.refl _ _⟩
  case round =>
    obtain ⟨k, A', c', rfl, rfl, hk, hk30, HC⟩ := hrel
    have hkI : (k : Int) ≤ 30 := by omega
    by_cases hin : (k : Int) < n ∧ (k : Int) < 30
    · obtain ⟨hin1, hin2⟩ := hin
      have hrd := H.out.1.new HC.out.2
      obtain ⟨b, o, rfl⟩ := hrd.addr (by omega)
      have hcell := hrd.byteD k (by have := H.out.2; omega)
      obtain ⟨z, hz⟩ : ∃ z, b0.getD k 0 = z := ⟨_, rfl⟩
      rw [hz] at hcell
      have hz256 : (z.toNat : Int) < 256 := by have := z.toNat_lt; omega
      have hkc : k < c := by omega
      have Hz := Lib.hid hz
      clear hz hrd
      have h200 : RdB (wr.alloc (.cells #[.int .u8 (200 + (z.toNat : Int) % 56)] 5)) (some ⟨wr.heap.size, 0, none⟩) 1 1 [UInt8.ofNat (200 + z.toNat % 56)] := by
        have h := rd_one wr (UInt8.ofNat (200 + z.toNat % 56))
        rw [show ((UInt8.ofNat (200 + z.toNat % 56)).toNat : Int) = 200 + (z.toNat : Int) % 56 from by rw [UInt8.toNat_ofNat']; omega] at h
        exact h
      have H2 := Lib.hid h200
      clear h200
      go_wp2_with (at_builtin; refine append_n rfl _ _ rfl w.heap.size A' k c' (mkOf b0 k) rfl (mkOf_length b0 k (by have := H.out.2; omega)) (OwnV.new HC.out.1 ((Mod.refl _ _).alloc _)) _ 1 1 _ rfl H2.out ?ha ?hb ?_; (case ha => omega); (case hb => rw [World.size_alloc]; have := HC.out.2.size; omega); intro A6 c6 w6 hown hm hbk; have H6 := Lib.hid (And.intro hown ((HC.out.2.trans ((Mod.refl (fun _ => False) wr).alloc _) (fun _ _ h => h)).trans hm (fun i hi hk' => by have := (OwnV.at_base HC.out.1 i hk').1; omega) : New w w6)); clear hown hm hbk)
      refine ⟨⟨k + 1, A6, c6, by go_num, rfl, by omega, by omega, ?_, H6.out.2⟩, by simp [intOf]; omega⟩
      rw [mkOf_succ b0 k (by have := H.out.2; omega), Hz.out]
      exact H6.out.1
    · have hmn : k = n ∨ k = 30 := by omega
      obtain ⟨m, hm⟩ : ∃ m, mkOf b0 k = m := ⟨_, rfl⟩
      have hml : m.length = k := by rw [← hm]; exact mkOf_length b0 k (by have := H.out.2; omega)
      have hbig : ∀ x ∈ m, 200 ≤ x.toNat := by rw [← hm]; exact mkOf_big b0 k
      have hown := HC.out.1
      rw [hm] at hown
      have HM := Lib.hid (And.intro hown (And.intro hml hbig))
      have HNw := Lib.hid HC.out.2
      clear hm hml hbig hown HC hmn
      have hrm := OwnB.rd HM.out.1
      rw [HM.out.2.1] at hrm
      have HRM := Lib.hid hrm
      clear hrm
      obtain ⟨W1, hW1⟩ : ∃ W1, W1 = wr := ⟨_, rfl⟩
      subst hW1
      rcases (show ((k : Int) < n ∧ ¬ (k : Int) < 30) ∨ ¬ (k : Int) < n from by omega) with ⟨hc1, hc2⟩ | hc1
      · clear hin
        go_wp2_with (at_builtin; refine append_n rfl _ _ rfl W1.heap.size _ 0 0 [] rfl rfl (own_lit0 W1 _ (Nat.le_refl _)) A' k c' m rfl (HRM.out.new ((Mod.refl _ _).alloc _)) ?ha ?hb ?_; (case ha => omega); (case hb => rw [World.size_alloc]; omega); intro A7 c7 w7 hown hm hbk; have H7 := Lib.hid (And.intro hown (((Mod.refl (fun _ => False) W1).alloc _).trans hm (fun i hi hk' => by simp [At] at hk'; omega) : New W1 w7)); clear hown hm hbk)
        go_loopw [8, 7] (fun i v w2 => ∃ (j : Nat) (B' : Option Addr) (d' : Nat), i = .int .i64 (j : Int) ∧ v = .slice B' (k + 2 * j) d' ∧ j ≤ g ∧ Hid (OwnB w2 W1.heap.size B' d' (m ++ prsOf j) ∧ New W1 w2)) (fun i _ _ => g - (intOf i).toNat)
        case atStart =>
          refine ⟨0, A7, c7, rfl, rfl, by omega, ?_, H7.out.2⟩
          have := H7.out.1
          rw [List.nil_append] at this
          rw [prsOf, List.append_nil]
          exact this
        case round =>
          obtain ⟨j, B', d', rfl, rfl, hj, HL⟩ := hrel
          have hjI : (j : Int) ≤ 5000 := by omega
          by_cases hjg : (j : Int) < g
          · go_wp2_with (at_builtin; refine append_n rfl _ _ rfl W1.heap.size B' (k + 2 * j) d' (m ++ prsOf j) rfl (by rw [List.length_append, HM.out.2.1, prsOf_length]) (OwnV.new HL.out.1 ((Mod.refl _ _).alloc _)) _ 2 2 _ rfl (rd_pair wr j hjI) ?ha ?hb ?_; (case ha => omega); (case hb => rw [World.size_alloc]; have := HL.out.2.size; omega); intro A6 c6 w6 hown hm hbk; have H6 := Lib.hid (And.intro hown ((HL.out.2.trans ((Mod.refl (fun _ => False) wr).alloc _) (fun _ _ h => h)).trans hm (fun i hi hk' => by have := (OwnV.at_base HL.out.1 i hk').1; omega) : New W1 w6)); clear hown hm hbk)
            refine ⟨⟨j + 1, A6, c6, by go_num, by rw [show k + 2 * (j + 1) = k + 2 * j + 2 from by omega], by omega, ?_, H6.out.2⟩, by simp [intOf]; omega⟩
            rw [prsOf, ← List.append_assoc]
            exact H6.out.1
          · have hjg2 : j = g := by omega
            subst hjg2
            obtain ⟨all, hall⟩ : ∃ all, m ++ prsOf j ++ m = all := ⟨_, rfl⟩
            obtain ⟨al, hal⟩ : ∃ al, k + 2 * j + k = al := ⟨_, rfl⟩
            have hal2 : (al : Int) ≤ 10060 := by omega
            have hall2 : all.length = al := by rw [← hall, List.length_append, List.length_append, HM.out.2.1, prsOf_length, hal]
            have HA := Lib.hid (And.intro hall (And.intro hall2 hal))
            obtain ⟨l, hlp⟩ := prs_packB [] all
            obtain ⟨pn, hpn⟩ : ∃ pn, (packB [] all).length = pn := ⟨_, rfl⟩
            have hpn2 : (pn : Int) ≤ 30000 := by have := packB_le [] all; omega
            have hun := unp_packB al [] all (by omega)
            rw [hpn, List.length_nil, List.nil_append] at hun
            have hlp' := hlp
            rw [hpn] at hlp'
            have HP := Lib.hid (And.intro hlp (And.intro hlp' (And.intro hun hpn)))
            clear hall hall2 hlp hlp' hpn hun
            go_wp2_with (first
              | (at_builtin; refine append_n rfl _ _ rfl W1.heap.size B' (k + 2 * j) d' (m ++ prsOf j) rfl (by rw [List.length_append, HM.out.2.1, prsOf_length]) HL.out.1 A' k c' m rfl (HRM.out.new HL.out.2) ?ha HL.out.2.size ?_; (case ha => omega); intro A8 c8 w8 hown hm hbk; rw [hal]; have hrd := OwnB.rd hown; rw [HA.out.1, HA.out.2.1] at hrd; have H8 := Lib.hid (And.intro hrd (HL.out.2.trans hm (fun i hi hk' => by have := (OwnV.at_base HL.out.1 i hk').1; omega) : New W1 w8)); clear hown hm hbk hrd hal)
              | (go_at_call 13; have hpk := pack_ok A8 al c8 all w8 H8.out.1 (by omega); rw [HP.out.2.2.2] at hpk; with_reducible (refine hpk.mono ?_); clear hpk; rintro e w9 ⟨PA, pc, rfl, hown, hn⟩; have hrp := OwnB.rd hown; rw [HP.out.2.2.2] at hrp; have H9 := Lib.hid (And.intro hrp (And.intro (H8.out.2.trans hn (fun _ _ h => h) : New W1 w9) (H8.out.1.new hn))); clear hown hrp hn)
              | (go_at_call 18; have hpk := unpack_some PA pn pc al (packB [] all) all w9 H9.out.1 (by omega) (by omega) HP.out.2.2.1; rw [HA.out.2.1] at hpk; with_reducible (refine hpk.mono ?_); clear hpk; rintro e w10 ⟨UA, uc, rfl, hru, hn⟩; have H10 := Lib.hid (And.intro hru (And.intro (H9.out.2.1.trans hn (fun _ _ h => h) : New W1 w10) (And.intro (H9.out.2.2.new hn) (H9.out.1.new hn)))); clear hn hru)
              | (go_at_call 21; have hpk := tokens_ok PA pn pc (packB [] all) l w10 H10.out.2.2.2 (by omega) HP.out.2.1; with_reducible (refine hpk.mono ?_); clear hpk; rintro e w11 ⟨TA, tc, ts, rfl, hot, hts, hn⟩; have H11 := Lib.hid (And.intro hot (And.intro hts (And.intro (H10.out.2.1.trans hn (fun _ _ h => h) : New W1 w11) (And.intro (H10.out.1.new hn) (H10.out.2.2.1.new hn))))); clear hn hot hts))
            go_at_call 14
            refine (known_ok w11).mono ?_
            rintro e w12 ⟨rfl, hn⟩
            have hs1 := run_str w12 (H11.out.2.2.2.1.new hn)
            have hs2 := run_str w12 (H11.out.2.2.2.2.new hn)
            have H12 := Lib.hid (HNw.out.trans (H11.out.2.2.1.trans hn (fun _ _ h => h)) (fun _ _ h => h) : New w w12)
            have H12t := Lib.hid (H11.out.1.new hn)
            clear hn
            have hcase : (j : Int) = 0 ∨ (¬ (j : Int) = 0 ∧ (k : Int) < 4) ∨ (¬ (j : Int) = 0 ∧ ¬ (k : Int) < 4 ∧ 4096 < (k : Int) + 2 * j) ∨ (¬ (j : Int) = 0 ∧ ¬ (k : Int) < 4 ∧ ¬ 4096 < (k : Int) + 2 * j) := by omega
            rcases hcase with h1 | ⟨h1, h2⟩ | ⟨h1, h2, h3⟩ | ⟨h1, h2, h3⟩
            · go_wp2
              all_goals (go_ret; exact ⟨rfl, H12.out⟩)
            · go_wp2
              all_goals (go_ret; exact ⟨rfl, H12.out⟩)
            · go_wp2
              all_goals (go_ret; exact ⟨rfl, H12.out⟩)
            · obtain ⟨ht0, t, ht1, ht2, ht3⟩ := win_last HM.out.2.1 HM.out.2.2 hk30 (by omega : ¬ j = 0) (by omega) (by omega) (by rw [HA.out.1]; exact HP.out.1) H11.out.2.1
              obtain ⟨gt, hTA, htc, hcd⟩ := H12t.out.cell (k := 1) ht1 (by decide)
              obtain ⟨_, hTA2, _, hcl⟩ := H12t.out.cell (k := 2) ht1 (by decide)
              rw [hTA] at hTA2
              injection hTA2 with hTA2
              injection hTA2 with hTA2
              subst hTA2 hTA
              obtain ⟨tn, htn⟩ : ∃ tn, ts.length = tn := ⟨_, rfl⟩
              have hbig := H12t.out.len_le
              rw [htn] at ht0 ht1 htc hcd hcl hbig ⊢
              have hcd' : w12.cell? ⟨gt, (tn - 1) * 3 + 1, none⟩ = some (.int .i64 ((k : Int) + 2 * j)) := by rw [hcd, ← show ((t.d : Nat) : Int) = (k : Int) + 2 * j from by omega]; rfl
              have hcl' : w12.cell? ⟨gt, (tn - 1) * 3 + 2, none⟩ = some (.int .i64 (k : Int)) := by rw [hcl, ← ht3]; rfl
              have ht0' : 0 < (tn : Int) := by omega
              have hbig' : (tn : Int) ≤ 9223372036854775807 := by omega
              have htc' : (tn : Int) ≤ tc := by omega
              clear hbig
              have HT := Lib.hid (And.intro ht1 (And.intro ht2 (And.intro ht3 htn)))
              clear hcd hcl ht1 ht2 ht3 htn
              go_wp2
              all_goals (go_ret; exact ⟨rfl, H12.out⟩)
      · clear hin
        go_wp2_with (at_builtin; refine append_n rfl _ _ rfl W1.heap.size _ 0 0 [] rfl rfl (own_lit0 W1 _ (Nat.le_refl _)) A' k c' m rfl (HRM.out.new ((Mod.refl _ _).alloc _)) ?ha ?hb ?_; (case ha => omega); (case hb => rw [World.size_alloc]; omega); intro A7 c7 w7 hown hm hbk; have H7 := Lib.hid (And.intro hown (((Mod.refl (fun _ => False) W1).alloc _).trans hm (fun i hi hk' => by simp [At] at hk'; omega) : New W1 w7)); clear hown hm hbk)
        go_loopw [8, 7] (fun i v w2 => ∃ (j : Nat) (B' : Option Addr) (d' : Nat), i = .int .i64 (j : Int) ∧ v = .slice B' (k + 2 * j) d' ∧ j ≤ g ∧ Hid (OwnB w2 W1.heap.size B' d' (m ++ prsOf j) ∧ New W1 w2)) (fun i _ _ => g - (intOf i).toNat)
        case atStart =>
          refine ⟨0, A7, c7, rfl, rfl, by omega, ?_, H7.out.2⟩
          have := H7.out.1
          rw [List.nil_append] at this
          rw [prsOf, List.append_nil]
          exact this
        case round =>
          obtain ⟨j, B', d', rfl, rfl, hj, HL⟩ := hrel
          have hjI : (j : Int) ≤ 5000 := by omega
          by_cases hjg : (j : Int) < g
          · go_wp2_with (at_builtin; refine append_n rfl _ _ rfl W1.heap.size B' (k + 2 * j) d' (m ++ prsOf j) rfl (by rw [List.length_append, HM.out.2.1, prsOf_length]) (OwnV.new HL.out.1 ((Mod.refl _ _).alloc _)) _ 2 2 _ rfl (rd_pair wr j hjI) ?ha ?hb ?_; (case ha => omega); (case hb => rw [World.size_alloc]; have := HL.out.2.size; omega); intro A6 c6 w6 hown hm hbk; have H6 := Lib.hid (And.intro hown ((HL.out.2.trans ((Mod.refl (fun _ => False) wr).alloc _) (fun _ _ h => h)).trans hm (fun i hi hk' => by have := (OwnV.at_base HL.out.1 i hk').1; omega) : New W1 w6)); clear hown hm hbk)
            refine ⟨⟨j + 1, A6, c6, by go_num, by rw [show k + 2 * (j + 1) = k + 2 * j + 2 from by omega], by omega, ?_, H6.out.2⟩, by simp [intOf]; omega⟩
            rw [prsOf, ← List.append_assoc]
            exact H6.out.1
          · have hjg2 : j = g := by omega
            subst hjg2
            obtain ⟨all, hall⟩ : ∃ all, m ++ prsOf j ++ m = all := ⟨_, rfl⟩
            obtain ⟨al, hal⟩ : ∃ al, k + 2 * j + k = al := ⟨_, rfl⟩
            have hal2 : (al : Int) ≤ 10060 := by omega
            have hall2 : all.length = al := by rw [← hall, List.length_append, List.length_append, HM.out.2.1, prsOf_length, hal]
            have HA := Lib.hid (And.intro hall (And.intro hall2 hal))
            obtain ⟨l, hlp⟩ := prs_packB [] all
            obtain ⟨pn, hpn⟩ : ∃ pn, (packB [] all).length = pn := ⟨_, rfl⟩
            have hpn2 : (pn : Int) ≤ 30000 := by have := packB_le [] all; omega
            have hun := unp_packB al [] all (by omega)
            rw [hpn, List.length_nil, List.nil_append] at hun
            have hlp' := hlp
            rw [hpn] at hlp'
            have HP := Lib.hid (And.intro hlp (And.intro hlp' (And.intro hun hpn)))
            clear hall hall2 hlp hlp' hpn hun
            go_wp2_with (first
              | (at_builtin; refine append_n rfl _ _ rfl W1.heap.size B' (k + 2 * j) d' (m ++ prsOf j) rfl (by rw [List.length_append, HM.out.2.1, prsOf_length]) HL.out.1 A' k c' m rfl (HRM.out.new HL.out.2) ?ha HL.out.2.size ?_; (case ha => omega); intro A8 c8 w8 hown hm hbk; rw [hal]; have hrd := OwnB.rd hown; rw [HA.out.1, HA.out.2.1] at hrd; have H8 := Lib.hid (And.intro hrd (HL.out.2.trans hm (fun i hi hk' => by have := (OwnV.at_base HL.out.1 i hk').1; omega) : New W1 w8)); clear hown hm hbk hrd hal)
              | (go_at_call 13; have hpk := pack_ok A8 al c8 all w8 H8.out.1 (by omega); rw [HP.out.2.2.2] at hpk; with_reducible (refine hpk.mono ?_); clear hpk; rintro e w9 ⟨PA, pc, rfl, hown, hn⟩; have hrp := OwnB.rd hown; rw [HP.out.2.2.2] at hrp; have H9 := Lib.hid (And.intro hrp (And.intro (H8.out.2.trans hn (fun _ _ h => h) : New W1 w9) (H8.out.1.new hn))); clear hown hrp hn)
              | (go_at_call 18; have hpk := unpack_some PA pn pc al (packB [] all) all w9 H9.out.1 (by omega) (by omega) HP.out.2.2.1; rw [HA.out.2.1] at hpk; with_reducible (refine hpk.mono ?_); clear hpk; rintro e w10 ⟨UA, uc, rfl, hru, hn⟩; have H10 := Lib.hid (And.intro hru (And.intro (H9.out.2.1.trans hn (fun _ _ h => h) : New W1 w10) (And.intro (H9.out.2.2.new hn) (H9.out.1.new hn)))); clear hn hru)
              | (go_at_call 21; have hpk := tokens_ok PA pn pc (packB [] all) l w10 H10.out.2.2.2 (by omega) HP.out.2.1; with_reducible (refine hpk.mono ?_); clear hpk; rintro e w11 ⟨TA, tc, ts, rfl, hot, hts, hn⟩; have H11 := Lib.hid (And.intro hot (And.intro hts (And.intro (H10.out.2.1.trans hn (fun _ _ h => h) : New W1 w11) (And.intro (H10.out.1.new hn) (H10.out.2.2.1.new hn))))); clear hn hot hts))
            go_at_call 14
            refine (known_ok w11).mono ?_
            rintro e w12 ⟨rfl, hn⟩
            have hs1 := run_str w12 (H11.out.2.2.2.1.new hn)
            have hs2 := run_str w12 (H11.out.2.2.2.2.new hn)
            have H12 := Lib.hid (HNw.out.trans (H11.out.2.2.1.trans hn (fun _ _ h => h)) (fun _ _ h => h) : New w w12)
            have H12t := Lib.hid (H11.out.1.new hn)
            clear hn
            have hcase : (j : Int) = 0 ∨ (¬ (j : Int) = 0 ∧ (k : Int) < 4) ∨ (¬ (j : Int) = 0 ∧ ¬ (k : Int) < 4 ∧ 4096 < (k : Int) + 2 * j) ∨ (¬ (j : Int) = 0 ∧ ¬ (k : Int) < 4 ∧ ¬ 4096 < (k : Int) + 2 * j) := by omega
            rcases hcase with h1 | ⟨h1, h2⟩ | ⟨h1, h2, h3⟩ | ⟨h1, h2, h3⟩
            · go_wp2
              all_goals (go_ret; exact ⟨rfl, H12.out⟩)
            · go_wp2
              all_goals (go_ret; exact ⟨rfl, H12.out⟩)
            · go_wp2
              all_goals (go_ret; exact ⟨rfl, H12.out⟩)
            · obtain ⟨ht0, t, ht1, ht2, ht3⟩ := win_last HM.out.2.1 HM.out.2.2 hk30 (by omega : ¬ j = 0) (by omega) (by omega) (by rw [HA.out.1]; exact HP.out.1) H11.out.2.1
              obtain ⟨gt, hTA, htc, hcd⟩ := H12t.out.cell (k := 1) ht1 (by decide)
              obtain ⟨_, hTA2, _, hcl⟩ := H12t.out.cell (k := 2) ht1 (by decide)
              rw [hTA] at hTA2
              injection hTA2 with hTA2
              injection hTA2 with hTA2
              subst hTA2 hTA
              obtain ⟨tn, htn⟩ : ∃ tn, ts.length = tn := ⟨_, rfl⟩
              have hbig := H12t.out.len_le
              rw [htn] at ht0 ht1 htc hcd hcl hbig ⊢
              have hcd' : w12.cell? ⟨gt, (tn - 1) * 3 + 1, none⟩ = some (.int .i64 ((k : Int) + 2 * j)) := by rw [hcd, ← show ((t.d : Nat) : Int) = (k : Int) + 2 * j from by omega]; rfl
              have hcl' : w12.cell? ⟨gt, (tn - 1) * 3 + 2, none⟩ = some (.int .i64 (k : Int)) := by rw [hcl, ← ht3]; rfl
              have ht0' : 0 < (tn : Int) := by omega
              have hbig' : (tn : Int) ≤ 9223372036854775807 := by omega
              have htc' : (tn : Int) ≤ tc := by omega
              clear hbig
              have HT := Lib.hid (And.intro ht1 (And.intro ht2 (And.intro ht3 htn)))
              clear hcd hcl ht1 ht2 ht3 htn
              go_wp2
              all_goals (go_ret; exact ⟨rfl, H12.out⟩)
end Go.Proofs.Ytcpiplfajgdohaa
