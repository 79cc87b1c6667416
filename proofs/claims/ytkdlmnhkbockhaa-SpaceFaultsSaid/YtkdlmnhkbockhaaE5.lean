/- SpaceShares: the walk. Conditions: those of each theorem. -/
import Derived.Test.YtkdlmnhkbockhaaE4
namespace Go.Proofs.Ytkdlmnhkbockhaa
open Go.RowKit Go.Maps

theorem thN_src (am pm cm : Nat) (l : List Fl) : thN (getA am pm cm (srcF l).1 (srcF l).2) = (srcF l).2 := by
  rw [srcF_count]
  unfold thN
  refine List.countP_congr fun k _ => ?_
  simp [getA]

/-- A new space whose source counts. -/
theorem start_ms {w0 w1 w2 : World} {F : Int → Option (List UInt8)} {n : Nat} (h1 : New w0 w1) (hm : MapV elS w2 w1.heap.size F n) (h2 : New w1 w2) :
    Calls Try.prog 11 #[.func (.func 12) #[.pointer (some ⟨w2.heap.size + 1, 0, none⟩)] #[]] ((w2.alloc (.map #[] 0)).alloc (.cells #[.map (some w1.heap.size), .map (some w2.heap.size)] 30)) fun e w' =>
      ∃ S x, e = .returned (.pointer (some ⟨S, 0, none⟩)) ∧ Ms w0 w' [x] ∧ x.A = getA (w2.heap.size + 1) w1.heap.size w2.heap.size F n ∧ x.S = S ∧ x.st = z0 := by
  have hn : New w2 ((w2.alloc (.map #[] 0)).alloc (.cells #[.map (some w1.heap.size), .map (some w2.heap.size)] 30)) := ((Mod.refl _ _).alloc _).alloc _
  have hsz : (w2.alloc (.map #[] 0)).heap.size = w2.heap.size + 1 := by simp
  have hlt := hm.lt
  have hs1 := h1.size
  have hs2 := h2.size
  have hJ : GetJ (w2.heap.size + 1) w1.heap.size w2.heap.size F n ((w2.alloc (.map #[] 0)).alloc (.cells #[.map (some w1.heap.size), .map (some w2.heap.size)] 30)) [] := by
    refine ⟨?_, hm.mod hn (fun h => h), ⟨0, ?_, fun _ => rfl⟩, by omega⟩
    · rw [← hsz]; exact Blk.fresh _ _ _
    · refine MapV.congr ((MapV.made elI w2).mod (S := fun _ => False) ((Mod.refl _ _).alloc _) (fun h => h)) fun k => ?_
      unfold cntOf
      rw [if_neg (by simp)]
  refine (new_st (getA (w2.heap.size + 1) w1.heap.size w2.heap.size F n) w0 _ (.inr ⟨_, _, _, rfl⟩) ((h1.trans h2 fun _ _ h => h).trans hn fun _ _ h => h) hJ (fun i hi => by rcases hi with rfl | rfl | rfl <;> omega)).mono ?_
  rintro e w' ⟨he, hst, -⟩
  obtain ⟨x, hx1, hx2, hx3, hx4⟩ := hst.ms
  exact ⟨_, x, he, hx1, hx2, hx3, hx4⟩
theorem fork_inv {w0 w : World} {x : Spc} {am pm cm n : Nat} {F : Int → Option (List UInt8)} (h : Ms w0 w [x]) (hA : x.A = getA am pm cm F n) (hst : x.st = z0) :
    Calls Try.prog 14 #[.pointer (some ⟨x.S, 0, none⟩)] w fun e w' => ∃ C, e = .returned (.pointer (some ⟨C, 0, none⟩)) ∧ InvS w0 am pm cm F n x.S C [] w' := by
  refine (fork_ms h (i := 0) rfl (needOk_of (.inl hA))).mono ?_
  rintro e w' ⟨he, x', h1, h2, h3, h4, h5⟩
  refine ⟨_, he, x', _, h1, h2.trans hA, h3, rfl, rfl, ?_⟩
  rw [hst, hA] at h4
  exact fork_sh rfl h4 h5
theorem InvS.lts {w0 w : World} {am pm cm n S C : Nat} {F : Int → Option (List UInt8)} {T : List Nat} (h : InvS w0 am pm cm F n S C T w) : pm < w.heap.size ∧ cm < w.heap.size ∧ w0.heap.size ≤ w.heap.size ∧ shN (getA am pm cm F n) T + T.length = thN (getA am pm cm F n) := by
  obtain ⟨xs, xc, hms, e1, e2, e3, e4, hsh⟩ := h
  have hj := (hms.m.ok 0 xs rfl).j
  rw [e1] at hj
  obtain ⟨hb, hp, ⟨nc, hc, -⟩, -⟩ := (show GetJ am pm cm F n w xs.log from hj)
  exact ⟨hp.lt, hc.lt, hms.new.size, shN_add _ T hsh.nd hsh.th⟩
theorem InvS.base {w0 w : World} {am pm cm n S C : Nat} {F : Int → Option (List UInt8)} {T : List Nat} (h : InvS w0 am pm cm F n S C T w) : New w0 w := by
  obtain ⟨xs, xc, hms, -⟩ := h
  exact hms.new
theorem InvS.shN0 (am pm cm n : Nat) (F : Int → Option (List UInt8)) : shN (getA am pm cm F n) [] = thN (getA am pm cm F n) := shN_nil _

set_option maxRecDepth 100000 in
set_option maxHeartbeats 2000000 in
theorem spaceShares_ok (A0 : Option Addr) (m c : Nat) (l : List Fl) (A1 : Option Addr) (nl cl : Nat) (ls : List UInt8) (A2 : Option Addr) (nr cr : Nat) (rs : List UInt8) (w : World)
    (h0 : RdL w A0 m c l) (h1 : RdB w A1 nl cl ls) (h2 : RdB w A2 nr cr rs) (hm : m ≤ 9223372036854775807) (hnl : nl ≤ 9223372036854775807) (hnr : nr ≤ 9223372036854775807) :
    Calls Try.prog 3 #[.slice A0 m c, .slice A1 nl cl, .slice A2 nr cr] w fun e w' => e = .returned (.bool true) ∧ New w w' := by
  have H := Lib.hid (And.intro h0 (And.intro h1 h2))
  clear h0 h1 h2
  by_cases hl : (20 : Int) < nl
  · go_enter Try.func3, Try.ntmps3
    go_wp2_with (first
      | (go_at_call 9; have hk0 := K1.out; clear hk0; refine (known_ok _).mono ?_; rintro e w2 ⟨rfl, hk2⟩; have K2 := Lib.hid hk2; clear hk2)
      | (go_at_call 9; refine (known_ok _).mono ?_; rintro e w1 ⟨rfl, hk1⟩; have K1 := Lib.hid hk1; clear hk1))
    go_ret
    exact ⟨rfl, K1.out.trans K2.out fun _ _ h => h⟩
  · by_cases hr : (20 : Int) < nr
    · go_enter Try.func3, Try.ntmps3
      go_wp2_with (first
        | (go_at_call 9; have hk0 := K1.out; clear hk0; refine (known_ok _).mono ?_; rintro e w2 ⟨rfl, hk2⟩; have K2 := Lib.hid hk2; clear hk2)
        | (go_at_call 9; refine (known_ok _).mono ?_; rintro e w1 ⟨rfl, hk1⟩; have K1 := Lib.hid hk1; clear hk1))
      go_ret
      exact ⟨rfl, K1.out.trans K2.out fun _ _ h => h⟩
    · have hmm := @run_makeMap Try.prog
      obtain ⟨F, n, hF⟩ : ∃ F n, srcF l = (F, n) := ⟨_, _, rfl⟩
      have hthN : ∀ am pm cm, thN (getA am pm cm F n) = n := fun am pm cm => by
        have := thN_src am pm cm l
        rw [hF] at this
        exact this
      have hsrc := fun w1 (hk : New w w1) => source_ok A0 m c l w1 (H.out.1.mod hk) hm
      rw [hF] at hsrc
      have HS := Lib.hid (And.intro hsrc hthN)
      clear hsrc hthN
      go_enter Try.func3, Try.ntmps3
      go_wp2_with (first
        | (go_at_call 9; refine (known_ok _).mono ?_; rintro e w1 ⟨rfl, hk1⟩; have K1 := Lib.hid hk1; clear hk1)
        | (go_at_call 10; with_reducible (refine (HS.out.1 w1 K1.out).mono ?_); rintro e w2 ⟨rfl, hs1, hs2⟩; have K2 := Lib.hid (And.intro hs1 hs2); clear hs1 hs2)
        | (go_at_call 11; with_reducible (refine (start_ms K1.out K2.out.1 K2.out.2).mono ?_); rintro e w3 ⟨S, x, rfl, hx1, hx2, hx3, hx4⟩; have K3 := Lib.hid (And.intro hx1 (And.intro hx2 (And.intro hx3 hx4))); clear hx1 hx2 hx3 hx4)
        | (go_at_call 13; have hk0 := K4.out; clear hk0; with_reducible (refine (K4.out.shared (r := n) (by rw [InvS.shN0, HS.out.2]; simp)).mono ?_); rintro e w5 ⟨rfl, hw5⟩; replace hw5 := hw5.symm; subst hw5)
        | (go_at_call 13; have hk0 := K3.out.2.2.1; subst hk0; refine (shared_ok x.S x.S _ _ _ _ _ _ w3 (K3.out.1.m.ok 0 x rfl).sp (K3.out.1.m.ok 0 x rfl).sp).mono ?_; rw [z0_none K3.out.2.2.2]; rintro e w5 ⟨rfl, hw5⟩; replace hw5 := hw5.symm; subst hw5)
        | (go_at_call 14; with_reducible (refine (fork_inv K3.out.1 K3.out.2.1 K3.out.2.2.2).mono ?_); rintro e w4 ⟨C, rfl, hx1⟩; have hln := hx1.len; have K4 := Lib.hid hx1; clear hx1))
      have hlts := K4.out.lts
      have hnl20 : nl ≤ 20 := by omega
      have hnr20 : nr ≤ 20 := by omega
      have H5 := Lib.hid hlts
      clear hlts
      go_loopw [12] (fun i wr => ∃ j : Nat, i = .int .i64 (j : Int) ∧ j ≤ nl + nr ∧ Hid (∃ T, InvS w (w2.heap.size + 1) w1.heap.size w2.heap.size F n x.S C T wr ∧ MapV elB wr w4.heap.size (setF T) T.length)) (fun i _ => nl + nr - (intOf i).toNat)
      case atStart =>
        exact ⟨0, rfl, by omega, [], K4.out.new ((Mod.refl _ _).alloc _), (MapV.made elB w4).congr fun k => by unfold setF; rw [if_neg (by simp)]⟩
      case round =>
        obtain ⟨j, rfl, hj, HC⟩ := hrel
        obtain ⟨T, hI, hT⟩ := HC.out
        have htm1 : w4.heap.size ≠ w1.heap.size := by have := H5.out.1; omega
        have htm2 : w4.heap.size ≠ w2.heap.size := by have := H5.out.2.1; omega
        by_cases hlt : (j : Int) < (nl : Int) + (nr : Int)
        · -- the page, and the space
          have hfin : ∀ (p : Nat), p < 64 → ((getA (w2.heap.size + 1) w1.heap.size w2.heap.size F n).ct p).isSome = true → ∀ wr1, InvS w (w2.heap.size + 1) w1.heap.size w2.heap.size F n x.S C (addT T p) wr1 → MapV elB wr1 w4.heap.size (setF T) T.length →
              ∃ wr2, (Instr.mapUpdate 36 (.map (some w4.heap.size)) (.int .i64 (p : Int)) (.bool true)).run Try.prog wr1 = .ok () wr2 ∧ Hid (∃ T, InvS w (w2.heap.size + 1) w1.heap.size w2.heap.size F n x.S C T wr2 ∧ MapV elB wr2 w4.heap.size (setF T) T.length) := fun p hp ht wr1 h1 h2 => by
            have hwf : (Lit.int .i64 (p : Int)).wf = true := by
              have h1 : IntKind.i64.min = -9223372036854775808 := rfl
              have h2 : IntKind.i64.max = 9223372036854775807 := rfl
              simp only [Lit.wf, Bool.and_eq_true, decide_eq_true_eq]
              omega
            have hle : T.length ≤ 64 := by
              obtain ⟨xs, xc, -, -, -, -, -, hsh⟩ := hI
              exact nodup_le 64 hsh.nd fun k hk => (hsh.th k hk).1
            have hmx : maxLen = 9223372036854775807 := rfl
            obtain ⟨wr2, hr, hm2, hmod, -⟩ := h2.store hwf (v := true) trivial (by omega)
            refine ⟨wr2, hr, addT T p, h1.setMap h2 htm1 htm2 H5.out.2.2.1 hmod, ?_⟩
            rw [addT_length] at hm2
            exact hm2.congr fun k => setF_add T p k
          by_cases hlt2 : (j : Int) < nl
          · obtain ⟨b, o, rfl⟩ := H.out.2.1.addr (by omega)
            obtain ⟨y, hy⟩ : ∃ y, ls.getD j 0 = y := ⟨_, rfl⟩
            have hc := hI.base.cell (H.out.2.1.byteD j (by rw [H.out.2.1.blen]; omega)) (fun h => h)
            rw [hy] at hc
            obtain ⟨p, hp⟩ : ∃ p, y.toNat % 64 = p := ⟨_, rfl⟩
            have hp64 : p < 64 := by omega
            have hpI : (y.toNat : Int) % 64 = (p : Int) := by omega
            have ht1 : (y.toNat : Int).tmod 64 = (p : Int) := by rw [Int.tmod_eq_emod_of_nonneg (by omega)]; exact hpI
            have ht2 : IntKind.i64.wrap (p : Int) = p := IntWalk.i64_in _ (by omega)
            clear hp
            rcases Bool.eq_false_or_eq_true ((getA (w2.heap.size + 1) w1.heap.size w2.heap.size F n).ct p).isSome with ht | ht
            · have hl1 := hI.load (X := x.S) hp64 (.inl rfl)
              obtain ⟨b0, hb0⟩ : ∃ b0, (((getA (w2.heap.size + 1) w1.heap.size w2.heap.size F n).ct p).getD []).getD 0 0 = b0 := ⟨_, rfl⟩
              rw [hb0] at hl1
              have hst := fun wr1 (h1 : InvS w (w2.heap.size + 1) w1.heap.size w2.heap.size F n x.S C T wr1) => h1.store (X := x.S) hp64 ht (.inl rfl)
              rw [hb0] at hst
              simp only [ht, if_true] at hl1
              have HL := Lib.hid (And.intro hfin (And.intro hl1 (And.intro hT (And.intro hp64 (And.intro ht hst)))))
              clear hfin hl1 hT hI hp64 ht hy hst hb0
              go_wp2_with (first
                | (go_at_call 15; with_reducible (refine HL.out.2.1.mono ?_); rintro e wr1 ⟨rfl, hx1, hx2⟩; have M1 := Lib.hid (And.intro hx1 hx2); clear hx1 hx2)
                | (go_at_call 16; with_reducible (refine (HL.out.2.2.2.2.2 wr1 M1.out.1).mono ?_); rintro e wr2 ⟨rfl, hx1, hx2⟩; obtain ⟨wr3, hr3, hx3⟩ := HL.out.1 p HL.out.2.2.2.1 HL.out.2.2.2.2.1 wr2 hx1 (hx2 _ _ _ htm1 htm2 (M1.out.2 _ _ _ htm1 htm2 HL.out.2.2.1)); have M2 := hx3; clear hx1 hx2 hx3))
              exact ⟨⟨j + 1, by go_num, by omega, M2⟩, by simp [intOf]; omega⟩
            · have hl1 := hI.load (X := x.S) hp64 (.inl rfl)
              simp only [ht, Bool.false_eq_true, if_false] at hl1
              have HL := Lib.hid (And.intro hl1 hT)
              clear hfin hl1 hT hI hp64 ht hy
              go_wp2_with (first
                | (go_at_call 15; with_reducible (refine HL.out.1.mono ?_); rintro e wr1 ⟨rfl, hx1, hx2⟩; have M1 := Lib.hid (And.intro hx1 hx2); clear hx1 hx2))
              exact ⟨⟨j + 1, by go_num, by omega, T, M1.out.1, M1.out.2 _ _ _ htm1 htm2 HL.out.2⟩, by simp [intOf]; omega⟩
          · obtain ⟨b, o, rfl⟩ := H.out.2.2.addr (by omega)
            obtain ⟨q, hq⟩ : ∃ q : Nat, (j : Int) - (nl : Int) = (q : Int) := ⟨j - nl, by omega⟩
            have hqr : (q : Int) < nr := by omega
            have hwq : IntKind.i64.wrap (q : Int) = q := IntWalk.i64_in _ (by omega)
            obtain ⟨y, hy⟩ : ∃ y, rs.getD q 0 = y := ⟨_, rfl⟩
            have hc := hI.base.cell (H.out.2.2.byteD q (by rw [H.out.2.2.blen]; omega)) (fun h => h)
            rw [hy] at hc
            obtain ⟨p, hp⟩ : ∃ p, y.toNat % 64 = p := ⟨_, rfl⟩
            have hp64 : p < 64 := by omega
            have hpI : (y.toNat : Int) % 64 = (p : Int) := by omega
            have ht1 : (y.toNat : Int).tmod 64 = (p : Int) := by rw [Int.tmod_eq_emod_of_nonneg (by omega)]; exact hpI
            have ht2 : IntKind.i64.wrap (p : Int) = p := IntWalk.i64_in _ (by omega)
            clear hp
            rcases Bool.eq_false_or_eq_true ((getA (w2.heap.size + 1) w1.heap.size w2.heap.size F n).ct p).isSome with ht | ht
            · have hl1 := fun k : Nat => (hI.new ((Mod.refl _ wr).drewN k)).load (X := C) hp64 (.inr rfl)
              obtain ⟨b0, hb0⟩ : ∃ b0, (((getA (w2.heap.size + 1) w1.heap.size w2.heap.size F n).ct p).getD []).getD 0 0 = b0 := ⟨_, rfl⟩
              rw [hb0] at hl1
              have hst := fun wr1 (h1 : InvS w (w2.heap.size + 1) w1.heap.size w2.heap.size F n x.S C T wr1) => h1.store (X := C) hp64 ht (.inr rfl)
              rw [hb0] at hst
              simp only [ht, if_true] at hl1
              have HL := Lib.hid (And.intro hfin (And.intro hl1 (And.intro (fun k : Nat => hT.mod (S := fun _ => False) ((Mod.refl _ wr).drewN k) (fun h => h)) (And.intro hp64 (And.intro ht hst)))))
              clear hfin hl1 hT hI hp64 ht hy hst hb0
              go_upto_region 18 with fail
              go_quiet (fail)
              go_wp2_with (first
                | (go_at_call 15; with_reducible (refine (HL.out.2.1 nq).mono ?_); rintro e wr1 ⟨rfl, hx1, hx2⟩; have M1 := Lib.hid (And.intro hx1 hx2); clear hx1 hx2)
                | (go_at_call 16; with_reducible (refine (HL.out.2.2.2.2.2 wr1 M1.out.1).mono ?_); rintro e wr2 ⟨rfl, hx1, hx2⟩; obtain ⟨wr3, hr3, hx3⟩ := HL.out.1 p HL.out.2.2.2.1 HL.out.2.2.2.2.1 wr2 hx1 (hx2 _ _ _ htm1 htm2 (M1.out.2 _ _ _ htm1 htm2 (HL.out.2.2.1 nq))); have M2 := hx3; clear hx1 hx2 hx3))
              exact ⟨⟨j + 1, by go_num, by omega, M2⟩, by simp [intOf]; omega⟩
            · have hl1 := fun k : Nat => (hI.new ((Mod.refl _ wr).drewN k)).load (X := C) hp64 (.inr rfl)
              simp only [ht, Bool.false_eq_true, if_false] at hl1
              have HL := Lib.hid (And.intro hl1 (fun k : Nat => hT.mod (S := fun _ => False) ((Mod.refl _ wr).drewN k) (fun h => h)))
              clear hfin hl1 hT hI hp64 ht hy
              go_upto_region 18 with fail
              go_quiet (fail)
              go_wp2_with (first
                | (go_at_call 15; with_reducible (refine (HL.out.1 nq).mono ?_); rintro e wr1 ⟨rfl, hx1, hx2⟩; have M1 := Lib.hid (And.intro hx1 hx2); clear hx1 hx2))
              exact ⟨⟨j + 1, by go_num, by omega, T, M1.out.1, M1.out.2 _ _ _ htm1 htm2 (HL.out.2 nq)⟩, by simp [intOf]; omega⟩
        · have hj : j = nl + nr := by omega
          subst hj
          have hsh := hI.lts.2.2.2
          rw [HS.out.2] at hsh
          have hlen : ∀ ty, (Builtin.len_ #[36] ty #[.map (some w4.heap.size)]).run Try.prog wr = .ok (.int .i64 (T.length : Int)) wr := hT.len
          have hlen2 := hI.len
          have he : ((shN (getA (w2.heap.size + 1) w1.heap.size w2.heap.size F n) T : Nat) : Int) = (n : Int) - (T.length : Int) := by omega
          obtain ⟨sh, hshe⟩ : ∃ sh, shN (getA (w2.heap.size + 1) w1.heap.size w2.heap.size F n) T = sh := ⟨_, rfl⟩
          rw [hshe] at he
          have HL := Lib.hid (And.intro hI (And.intro hsh hshe))
          replace he := he.symm
          have hsw : IntKind.i64.wrap (sh : Int) = sh := IntWalk.i64_in _ (by have : sh ≤ 64 := (by rw [← hshe]; unfold shN; exact Nat.le_trans List.countP_le_length (by simp)); omega)
          clear hI hsh hT hshe
          go_wp2_with (first
            | (go_at_call 13; with_reducible (refine (HL.out.1.shared (r := sh) (.inl ⟨.inl ⟨rfl, rfl⟩, HL.out.2.2.symm⟩)).mono ?_); rintro e w5 ⟨rfl, hw5⟩; replace hw5 := hw5.symm; subst hw5)
            | (go_at_call 17; with_reducible (refine HL.out.1.equal.mono ?_); rintro e w6 ⟨rfl, hx⟩; have M1 := Lib.hid hx; clear hx))
          go_ret
          exact ⟨rfl, M1.out⟩
end Go.Proofs.Ytkdlmnhkbockhaa
