/- The reference's Canonical answers a row of the canonical tokens. Conditions: those of each theorem. -/
import Derived.Test.YtcpiplfajgdohaaB2
namespace Go.Proofs.Ytcpiplfajgdohaa
open Go.RowKit Go.Shelf

theorem i68 : (Try.prog.info? 68).map (fun i => (i.zero, i.size, i.bytes)) = some (some (.agg #[.slice none 0 0, .int .i64 0, .int .i64 0]), 3, 40) := by kernel_rfl

theorem blk_pt (w : World) (A : Option Addr) (n c : Nat) (ls : List UInt8) (d l : Nat) (hn : ls.length = n) : Blk (w.alloc (.cells #[.slice A n c, .int .i64 (d : Int), .int .i64 (l : Int)] 68)) w.heap.size 68 (ptC ⟨A, c, ls, d, l⟩).toArray := by
  subst hn
  exact Blk.fresh w 68 _

/-- What lies in memory at the head of Canonical's round. -/
structure CI (w W : World) (X : Option Addr) (cx : Nat) (all : List UInt8) (Ao : Option Addr) (co : Nat) (ts : List PT) (Ar : Option Addr) (cr : Nat) (run : List UInt8) : Prop where
  own : OwnT W w.heap.size 68 Ao co ts
  ownr : OwnB W w.heap.size Ar cr run
  toks : ∀ t ∈ ts, OwnB W w.heap.size t.A t.c t.ls ∧ ∀ k, At t.A k → ¬ At Ar k
  alls : OwnB W w.heap.size X cx all ∧ ∀ k, At X k → ¬ At Ar k
  new : New w W

theorem CI.later {w W W' : World} {X : Option Addr} {cx : Nat} {all : List UInt8} {Ao : Option Addr} {co : Nat} {ts : List PT} {Ar : Option Addr} {cr : Nat} {run : List UInt8} (h : CI w W X cx all Ao co ts Ar cr run) (hn : New W W') : CI w W' X cx all Ao co ts Ar cr run :=
  ⟨h.own.new hn, OwnV.new h.ownr hn, fun t ht => ⟨OwnV.new (h.toks t ht).1 hn, (h.toks t ht).2⟩, ⟨OwnV.new h.alls.1 hn, h.alls.2⟩, h.new.trans hn (fun _ _ h => h)⟩
/-- One more literal. -/
theorem CI.lit {w W W' : World} {X : Option Addr} {cx : Nat} {all : List UInt8} {Ao : Option Addr} {co : Nat} {ts : List PT} {Ar Ar' : Option Addr} {cr cr' : Nat} {run run' : List UInt8} (h : CI w W X cx all Ao co ts Ar cr run)
    (hm : Mod (At Ar) W W') (hown : OwnB W' w.heap.size Ar' cr' run') (hb : ∀ k, At Ar' k → At Ar k ∨ k = W.heap.size) : CI w W' X cx all Ao co ts Ar' cr' run' := by
  refine ⟨h.own.keep hm (fun k hk hr => ?_), hown, fun t ht => ⟨OwnV.keep (h.toks t ht).1 hm (h.toks t ht).2, fun k hk hr => ?_⟩, ⟨OwnV.keep h.alls.1 hm h.alls.2, fun k hk hr => ?_⟩, h.new.trans hm (fun i hi hr => ?_)⟩
  · obtain ⟨_, _, cs, hB⟩ := h.own.at_base k hk
    exact OwnV.at_ne h.ownr hB (by decide) hr
  · rcases hb k hr with h1 | h1
    · exact (h.toks t ht).2 k hk h1
    · have := (OwnV.at_base (h.toks t ht).1 k hk).2
      omega
  · rcases hb k hr with h1 | h1
    · exact h.alls.2 k hk h1
    · have := (OwnV.at_base h.alls.1 k hk).2
      omega
  · have := (OwnV.at_base h.ownr i hr).1
    omega
/-- One more token, the run is at its end. -/
theorem CI.tok {w W W' : World} {X : Option Addr} {cx : Nat} {all : List UInt8} {Ao Ao' : Option Addr} {co co' : Nat} {ts : List PT} {Ar : Option Addr} {cr : Nat} {run : List UInt8} (h : CI w W X cx all Ao co ts Ar cr run) (x : PT)
    (hx : OwnB W w.heap.size x.A x.c x.ls) (hm : Mod (At Ao) W W') (hown : OwnT W' w.heap.size 68 Ao' co' (ts ++ [x])) : CI w W' X cx all Ao' co' (ts ++ [x]) none 0 [] := by
  have far : ∀ {A : Option Addr} {n c : Nat} {vs : List Value}, OwnV W w.heap.size 5 (.slice A n c) vs → ∀ k, At A k → ¬ At Ao k := fun {A n c vs} hv k hk ho => by
    obtain ⟨_, _, cs, hB⟩ := h.own.at_base k ho
    exact OwnV.at_ne hv hB (by decide) hk
  refine ⟨hown, OwnV.nil _ _ _, fun t ht => ⟨?_, fun k _ hr => by simp [At] at hr⟩, ⟨OwnV.keep h.alls.1 hm (far h.alls.1), fun k _ hr => by simp [At] at hr⟩, h.new.trans hm (fun i hi hr => ?_)⟩
  · rcases List.mem_append.1 ht with h1 | h1
    · exact OwnV.keep (h.toks t h1).1 hm (far (h.toks t h1).1)
    · simp only [List.mem_cons, List.not_mem_nil, or_false] at h1
      subst h1
      exact OwnV.keep hx hm (far hx)
  · have := (h.own.at_base i hr).1
    omega

/-- .. where the run was empty, its row stays. -/
theorem CI.recap {w W' : World} {X : Option Addr} {cx : Nat} {all : List UInt8} {Ao' : Option Addr} {co' : Nat} {ts' : List PT} (h : CI w W' X cx all Ao' co' ts' none 0 []) (Ar : Option Addr) (cr : Nat) {W : World} {Ao : Option Addr} {co : Nat} {ts : List PT}
    (hr : OwnB W w.heap.size Ar cr []) (hm : Mod (At Ao) W W') (hO : OwnT W w.heap.size 68 Ao co ts) (ht : ∀ t ∈ ts', ∀ k, At t.A k → ¬ At Ar k) (hX : ∀ k, At X k → ¬ At Ar k) : CI w W' X cx all Ao' co' ts' Ar cr [] :=
  ⟨h.own, OwnV.keep hr hm (fun k hk ho => by
    obtain ⟨_, _, cs, hB⟩ := hO.at_base k ho
    exact OwnV.at_ne hr hB (by decide) hk), fun t h' => ⟨(h.toks t h').1, ht t h'⟩, ⟨h.alls.1, hX⟩, h.new⟩

set_option maxRecDepth 100000 in
set_option maxHeartbeats 1000000 in
theorem canonical_ok (A1 : Option Addr) (n1 c1 : Nat) (d : List UInt8) (A2 : Option Addr) (n2 c2 : Nat) (b : List UInt8) (w : World) (h1 : RdB w A1 n1 c1 d) (h2 : RdB w A2 n2 c2 b) (hn1 : (n1 : Int) ≤ 1000000) (hn2 : (n2 : Int) ≤ 1000000) :
    Calls Try.prog 16 #[.slice A1 n1 c1, .slice A2 n2 c2] w fun e w' => ∃ A c ts, e = .returned (.slice A ts.length c) ∧ OwnT w' w.heap.size 68 A c ts ∧ (∀ t ∈ ts, RdB w' t.A t.ls.length t.c t.ls) ∧ ts.map PT.tk = cn (d ++ b) b.length d.length [] ∧ New w w' := by
  have H1 := Lib.hid h1
  have H2 := Lib.hid h2
  have Hm0 := Lib.hid ((Mod.refl (fun _ => False) w).alloc (.cells #[] 5))
  clear h1 h2
  go_enter Try.func16, Try.ntmps16
  go_wp2_with (first
    | (at_builtin; refine append_n rfl _ _ rfl w.heap.size _ 0 0 [] rfl rfl (own_lit0 w _ (Nat.le_refl _)) A1 n1 c1 d rfl (H1.out.new Hm0.out) ?ha Hm0.out.size ?_; (case ha => omega); intro A3 c3 w3 hown hm hb; have H3 := Lib.hid (And.intro hown (Hm0.out.trans hm (fun i hi hk => by simp [At] at hk; omega))); clear hown hm hb)
    | (at_builtin; go_must (refine append_n rfl _ _ rfl w.heap.size A3 n1 c3 d rfl H1.out.blen H3.out.1 A2 n2 c2 b rfl (H2.out.new H3.out.2) ?ha H3.out.2.size ?_; (case ha => omega); intro A4 c4 w4 hown hm hb; have H4 := Lib.hid (And.intro hown (H3.out.2.trans hm (fun i hi hk => by have := (OwnV.at_base H3.out.1 i hk).1; omega))); clear hown hm hb)))
  obtain ⟨all, hall⟩ : ∃ all, d ++ b = all := ⟨_, rfl⟩
  obtain ⟨al, hal⟩ : ∃ al, n1 + n2 = al := ⟨_, rfl⟩
  have hall2 : all.length = al := by rw [← hall, List.length_append, H1.out.blen, H2.out.blen, hal]
  have hal3 : (al : Int) ≤ 2000000 := by omega
  have hn1al : (n1 : Int) ≤ al := by omega
  have HA := Lib.hid (And.intro hall (And.intro hall2 hal))
  rw [hal]
  clear hall hal hall2
  go_loopw [8, 6, 7] (fun i o r wr => ∃ (at_ : Nat) (Ao : Option Addr) (co : Nat) (ts : List PT) (tn : Nat) (Ar : Option Addr) (cr : Nat) (run : List UInt8) (rn : Nat), i = .int .i64 (at_ : Int) ∧ o = .slice Ao tn co ∧ r = .slice Ar rn cr ∧ at_ ≤ al ∧ (rn : Int) < 128 ∧ (tn : Int) ≤ at_ ∧
      Hid (CI w wr A4 c4 all Ao co ts Ar cr run ∧ ts.length = tn ∧ run.length = rn ∧ ts.map PT.tk ++ cn all (al - at_) at_ run = cn all n2 n1 [])) (fun i _ _ _ => al - (intOf i).toNat)
  case atStart =>
    refine ⟨n1, none, 0, [], 0, none, 0, [], 0, rfl, rfl, rfl, by omega, by omega, by omega, ⟨⟨OwnT.nil _ _ _, OwnV.nil _ _ _, fun t ht => (by cases ht), ⟨?_, fun k _ hk => (by simp [At] at hk)⟩, H4.out.2⟩, rfl, rfl, ?_⟩⟩
    · have := H4.out.1
      rw [HA.out.1] at this
      exact this
    · rw [show al - n1 = n2 from by have := HA.out.2.2; omega]
      rfl
  case round =>
    obtain ⟨at_, Ao, co, ts, tn, Ar, cr, run, rn, rfl, rfl, rfl, hat, hrn, htn, HC⟩ := hrel
    have hatI : (at_ : Int) ≤ al := by omega
    by_cases hlt : (at_ : Int) < al
    · obtain ⟨f, hf⟩ : ∃ f, al - at_ = f + 1 := ⟨al - at_ - 1, by omega⟩
      have hcn := HC.out.2.2.2
      rw [hf, cn, if_pos (by rw [HA.out.2.1]; omega)] at hcn
      obtain ⟨x, y, hxy⟩ : ∃ x y, bestB all at_ = (x, y) := ⟨_, _, rfl⟩
      have hbl := bst_le all at_ (min 4096 at_)
      rw [← bestB, hxy] at hbl
      rw [hxy] at hcn
      dsimp only at hcn hbl
      have hrd := OwnB.rd HC.out.1.alls.1
      rw [HA.out.2.1] at hrd
      obtain ⟨b4, o4, hA4⟩ := hrd.addr (by omega)
      subst hA4
      have hbest := best_ok b4 o4 al c4 all at_ wr hrd (by omega) (by omega)
      rw [hxy] at hbest
      have HB := Lib.hid (And.intro hbest (And.intro hcn hf))
      have HX := Lib.hid (show 4 ≤ (x : Int) → (at_ : Int) + x ≤ al from fun h => by have := best_len (all := all) (at_ := at_) (by rw [hxy]; dsimp only; omega); rw [hxy, HA.out.2.1] at this; dsimp only at this; omega)
      have hx131 : (x : Int) ≤ 131 := by omega
      have hy4096 : (y : Int) ≤ 4096 := by omega
      have hc4 : at_ < c4 := by have := hrd.cap; omega
      clear hbest hcn hxy hbl hrd hf
      have hr128 : run.length < 128 := by have := HC.out.2.2.1; omega
      by_cases hx : 4 ≤ (x : Int)
      · have hend : (at_ : Int) + x ≤ al := HX.out hx
        have hxx := HB.out.2.1
        rw [if_neg (by omega)] at hxx
        have HY := Lib.hid hxx
        clear hxx
        by_cases hr0 : 0 < (rn : Int)
        · go_wp2_with (first
            | (go_at_call 30; go_must (refine HB.out.1.mono ?_; rintro e w5 ⟨rfl, hn5⟩; have H5 := Lib.hid (HC.out.1.later hn5); clear hn5))
            | (at_builtin; refine wpList_append_t 30 rfl _ _ rfl Try.underlying30 i68 rfl w.heap.size Ao tn co ts rfl HC.out.2.1 (H5.out.later ((Mod.refl _ _).alloc _)).own w5.heap.size ⟨Ar, cr, run, 0, 0⟩ rfl (blk_pt w5 Ar rn cr run 0 0 HC.out.2.2.1) ?ha ?hb ?_; (case ha => omega); (case hb => rw [World.size_alloc]; have := H5.out.new.size; omega); intro A6 c6 w6 hown hm hbk; have H6 := Lib.hid ((H5.out.later ((Mod.refl _ _).alloc _)).tok ⟨Ar, cr, run, 0, 0⟩ (H5.out.later ((Mod.refl _ _).alloc _)).ownr hm hown); clear hown hm hbk)
            | (at_builtin; refine wpList_append_t 30 rfl _ _ rfl Try.underlying30 i68 rfl w.heap.size A6 (tn + 1) c6 (ts ++ [⟨Ar, cr, run, 0, 0⟩]) rfl (by rw [List.length_append, HC.out.2.1]; rfl) (H6.out.later ((Mod.refl _ _).alloc _)).own w6.heap.size ⟨none, 0, [], y, x⟩ rfl (blk_pt w6 none 0 0 [] y x rfl) ?ha ?hb ?_; (case ha => omega); (case hb => rw [World.size_alloc]; have := H6.out.new.size; omega); intro A7 c7 w7 hown hm hbk; have H7 := Lib.hid ((H6.out.later ((Mod.refl _ _).alloc _)).tok ⟨none, 0, [], y, x⟩ (OwnV.nil _ _ _) hm hown); clear hown hm hbk))
          refine ⟨⟨at_ + x, A7, c7, ts ++ [⟨Ar, cr, run, 0, 0⟩] ++ [⟨none, 0, [], y, x⟩], tn + 1 + 1, none, 0, [], 0, by go_num, rfl, rfl, by omega, by omega, by omega, H7.out, by rw [List.length_append, List.length_append, HC.out.2.1]; rfl, rfl, ?_⟩, by simp [intOf]; omega⟩
          rw [← HY.out, cn_fuel all (al - (at_ + x)) f (at_ + x) [] (by have := HA.out.2.1; omega) (by have := HA.out.2.1; have := HB.out.2.2; omega), runT, if_pos (by have := HC.out.2.2.1; omega)]
          simp [PT.tk]
        · have hrun : run = [] := List.eq_nil_of_length_eq_zero (by have := HC.out.2.2.1; omega)
          have hrn0 : rn = 0 := by omega
          subst hrun hrn0
          go_wp2_with (first
            | (go_at_call 30; go_must (refine HB.out.1.mono ?_; rintro e w5 ⟨rfl, hn5⟩; have H5 := Lib.hid (HC.out.1.later hn5); clear hn5))
            | (at_builtin; refine wpList_append_t 30 rfl _ _ rfl Try.underlying30 i68 rfl w.heap.size Ao tn co ts rfl HC.out.2.1 (H5.out.later ((Mod.refl _ _).alloc _)).own w5.heap.size ⟨none, 0, [], y, x⟩ rfl (blk_pt w5 none 0 0 [] y x rfl) ?ha ?hb ?_; (case ha => omega); (case hb => rw [World.size_alloc]; have := H5.out.new.size; omega); intro A7 c7 w7 hown hm hbk; have H7 := Lib.hid ((H5.out.later ((Mod.refl _ _).alloc _)).tok ⟨none, 0, [], y, x⟩ (OwnV.nil _ _ _) hm hown); have HR := Lib.hid (((H5.out.later ((Mod.refl _ _).alloc _)).tok ⟨none, 0, [], y, x⟩ (OwnV.nil _ _ _) hm hown).recap Ar cr (H5.out.later ((Mod.refl _ _).alloc _)).ownr hm (H5.out.later ((Mod.refl _ _).alloc _)).own); clear hown hm hbk))
          refine ⟨⟨at_ + x, A7, c7, ts ++ [⟨none, 0, [], y, x⟩], tn + 1, Ar, cr, [], 0, by go_num, rfl, rfl, by omega, by omega, by omega, HR.out (fun t ht => (List.mem_append.1 ht).elim (fun h => (H5.out.toks t h).2) (fun h => by simp only [List.mem_cons, List.not_mem_nil, or_false] at h; subst h; intro k hk; simp [At] at hk)) H5.out.alls.2, by rw [List.length_append, HC.out.2.1]; rfl, rfl, ?_⟩, by simp [intOf]; omega⟩
          rw [← HY.out, cn_fuel all (al - (at_ + x)) f (at_ + x) [] (by have := HA.out.2.1; omega) (by have := HA.out.2.1; have := HB.out.2.2; omega), runT, if_neg (by simp)]
          simp [PT.tk]
      · have hxx := HB.out.2.1
        rw [if_pos (by omega)] at hxx
        have HY := Lib.hid hxx
        clear hxx
        obtain ⟨v, hv⟩ : ∃ v, all.getD at_ 0 = v := ⟨_, rfl⟩
        have Hv := Lib.hid hv
        clear hv
        by_cases hr1 : (rn : Int) + 1 = 128
        · go_wp2_with (first
            | (go_at_call 30; go_must (refine HB.out.1.mono ?_; rintro e w5 ⟨rfl, hn5⟩; have H5 := Lib.hid (HC.out.1.later hn5); clear hn5; have hcell := (OwnB.rd H5.out.alls.1).byteD at_ (by have := HA.out.2.1; omega); rw [Hv.out] at hcell))
            | (at_builtin; refine append_n rfl _ _ rfl w.heap.size Ar rn cr run rfl HC.out.2.2.1 (H5.out.later ((Mod.refl _ _).alloc _)).ownr _ 1 1 _ rfl (rd_one w5 v) ?ha ?hb ?_; (case ha => omega); (case hb => rw [World.size_alloc]; have := H5.out.new.size; omega); intro A6 c6 w6 hown hm hbk; have H6 := Lib.hid ((H5.out.later ((Mod.refl _ _).alloc _)).lit hm hown hbk); clear hown hm hbk hcell)
            | (at_builtin; refine wpList_append_t 30 rfl _ _ rfl Try.underlying30 i68 rfl w.heap.size Ao tn co ts rfl HC.out.2.1 (H6.out.later ((Mod.refl _ _).alloc _)).own w6.heap.size ⟨A6, c6, run ++ [v], 0, 0⟩ rfl (blk_pt w6 A6 (rn + 1) c6 (run ++ [v]) 0 0 (by rw [List.length_append, HC.out.2.2.1]; rfl)) ?ha ?hb ?_; (case ha => omega); (case hb => rw [World.size_alloc]; have := H6.out.new.size; omega); intro A7 c7 w7 hown hm hbk; have H7 := Lib.hid ((H6.out.later ((Mod.refl _ _).alloc _)).tok ⟨A6, c6, run ++ [v], 0, 0⟩ (H6.out.later ((Mod.refl _ _).alloc _)).ownr hm hown); clear hown hm hbk))
          refine ⟨⟨at_ + 1, A7, c7, ts ++ [⟨A6, c6, run ++ [v], 0, 0⟩], tn + 1, none, 0, [], 0, by go_num, rfl, rfl, by omega, by omega, by omega, H7.out, by rw [List.length_append, HC.out.2.1]; rfl, rfl, ?_⟩, by simp [intOf]; omega⟩
          rw [← HY.out, cn_fuel all (al - (at_ + 1)) f (at_ + 1) [] (by have := HA.out.2.1; omega) (by have := HA.out.2.1; have := HB.out.2.2; omega), Hv.out, if_pos (by rw [List.length_append]; have := HC.out.2.2.1; simp; omega)]
          simp [PT.tk]
        · go_wp2_with (first
            | (go_at_call 30; go_must (refine HB.out.1.mono ?_; rintro e w5 ⟨rfl, hn5⟩; have H5 := Lib.hid (HC.out.1.later hn5); clear hn5; have hcell := (OwnB.rd H5.out.alls.1).byteD at_ (by have := HA.out.2.1; omega); rw [Hv.out] at hcell))
            | (at_builtin; refine append_n rfl _ _ rfl w.heap.size Ar rn cr run rfl HC.out.2.2.1 (H5.out.later ((Mod.refl _ _).alloc _)).ownr _ 1 1 _ rfl (rd_one w5 v) ?ha ?hb ?_; (case ha => omega); (case hb => rw [World.size_alloc]; have := H5.out.new.size; omega); intro A6 c6 w6 hown hm hbk; have H6 := Lib.hid ((H5.out.later ((Mod.refl _ _).alloc _)).lit hm hown hbk); clear hown hm hbk hcell))
          refine ⟨⟨at_ + 1, Ao, co, ts, tn, A6, c6, run ++ [v], rn + 1, by go_num, rfl, rfl, by omega, by omega, by omega, H6.out, HC.out.2.1, by rw [List.length_append, HC.out.2.2.1]; rfl, ?_⟩, by simp [intOf]; omega⟩
          rw [← HY.out, cn_fuel all (al - (at_ + 1)) f (at_ + 1) (run ++ [v]) (by have := HA.out.2.1; omega) (by have := HA.out.2.1; have := HB.out.2.2; omega), Hv.out, if_neg (by rw [List.length_append]; have := HC.out.2.2.1; simp; omega)]
    · have hend : al - at_ = 0 := by omega
      have hcn := HC.out.2.2.2
      rw [hend, cn] at hcn
      have HZ := Lib.hid hcn
      clear hcn hend
      by_cases hr0 : 0 < (rn : Int)
      · go_wp2_with (at_builtin; refine wpList_append_t 30 rfl _ _ rfl Try.underlying30 i68 rfl w.heap.size Ao tn co ts rfl HC.out.2.1 (HC.out.1.later ((Mod.refl _ _).alloc _)).own wr.heap.size ⟨Ar, cr, run, 0, 0⟩ rfl (blk_pt wr Ar rn cr run 0 0 HC.out.2.2.1) ?ha ?hb ?_; (case ha => omega); (case hb => rw [World.size_alloc]; have := HC.out.1.new.size; omega); intro A6 c6 w6 hown hm hbk; have H6 := Lib.hid ((HC.out.1.later ((Mod.refl _ _).alloc _)).tok ⟨Ar, cr, run, 0, 0⟩ (HC.out.1.later ((Mod.refl _ _).alloc _)).ownr hm hown); clear hown hm hbk)
        go_ret
        refine ⟨A6, c6, ts ++ [⟨Ar, cr, run, 0, 0⟩], by rw [List.length_append, HC.out.2.1]; rfl, H6.out.own, fun t ht => OwnB.rd (H6.out.toks t ht).1, ?_, H6.out.new⟩
        rw [HA.out.1, H1.out.blen, H2.out.blen, ← HZ.out, runT, if_pos (by have := HC.out.2.2.1; omega)]
        simp [PT.tk]
      · go_wp2
        go_ret
        refine ⟨Ao, co, ts, by rw [HC.out.2.1]; rfl, HC.out.1.own, fun t ht => OwnB.rd (HC.out.1.toks t ht).1, ?_, HC.out.1.new⟩
        rw [HA.out.1, H1.out.blen, H2.out.blen, ← HZ.out, runT, if_neg (by have := HC.out.2.2.1; omega)]
        simp
end Go.Proofs.Ytcpiplfajgdohaa
