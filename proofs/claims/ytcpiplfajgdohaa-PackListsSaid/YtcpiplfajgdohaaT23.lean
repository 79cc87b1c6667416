/- What is too long is rejected; PackLimits returns true. Conditions: those of each theorem. -/
import Derived.Test.YtcpiplfajgdohaaT16
import Derived.Test.YtcpiplfajgdohaaL3
import Derived.Laws.MakeOwn
namespace Go.Proofs.Ytcpiplfajgdohaa
open Go.RowKit Go.Shelf

theorem packWith_long1 (A1 : Option Addr) (n1 c1 : Nat) (A2 : Option Addr) (n2 c2 : Nat) (w : World) (h : 1048576 < (n1 : Int)) :
    Calls Try.prog 12 #[.slice A1 n1 c1, .slice A2 n2 c2] w fun e w' => e = .returned (.tuple #[.slice none 0 0, .int .i64 5]) ∧ New w w' := by
  go_enter Try.func12, Try.ntmps12
  go_wp2
  go_ret2
  exact ⟨rfl, Mod.refl _ _⟩
theorem packWith_long2 (A2 : Option Addr) (n2 c2 : Nat) (A1 : Option Addr) (n1 c1 : Nat) (w : World) (h1 : (n1 : Int) ≤ 1048576) (h : 1048576 < (n2 : Int)) :
    Calls Try.prog 12 #[.slice A1 n1 c1, .slice A2 n2 c2] w fun e w' => e = .returned (.tuple #[.slice none 0 0, .int .i64 5]) ∧ New w w' := by
  go_enter Try.func12, Try.ntmps12
  go_wp2
  go_ret2
  exact ⟨rfl, Mod.refl _ _⟩
theorem pack_long (A : Option Addr) (n c : Nat) (w : World) (h : 1048576 < (n : Int)) :
    Calls Try.prog 13 #[.slice A n c] w fun e w' => e = .returned (.tuple #[.slice none 0 0, .int .i64 5]) ∧ New w w' := by
  go_enter Try.func13, Try.ntmps13
  go_wp2_with (go_at_call 12; refine (packWith_long2 A n c none 0 0 w (by decide) h).mono ?_; rintro e w1 ⟨rfl, hn⟩)
  go_ret2
  exact ⟨rfl, hn⟩

theorem info22 : (Try.prog.info? 22).map (fun i => (i.zero, i.size, i.bytes)) = some (some (.slice none 0 0), 1, 24) := by kernel_rfl

set_option maxRecDepth 100000 in
set_option maxHeartbeats 1000000 in
theorem packList_long (g : Nat) (A : Option Addr) (n c : Nat) (w : World) (hg : Blk w g 22 #[.slice none 0 0, .slice A n c]) (h : 1048576 < (n : Int)) :
    Calls Try.prog 22 #[.slice (some ⟨g, 0, none⟩) 2 2] w fun e w' => e = .returned (.tuple #[.slice none 0 0, .int .i64 5]) ∧ New w w' := by
  have hc0 := hg.cell 0 _ rfl
  have Hg := Lib.hid hg
  clear hg
  go_enter Try.func22, Try.ntmps22
  go_wp2
  refine wp_loop_rounds 3 ?_
  rw [rounds_succ]
  go_wp2_with (first
    | (go_at_call 12; refine (packWith_ok none 0 0 [] none 0 0 [] w (RdV.nil _ _ _) (RdV.nil _ _ _) (by decide) (by decide)).mono ?_; rintro e w1 ⟨PA, pc, rfl, hown, hnew⟩; have hp0 : (packB [] []).length = 0 := (by have := packB_le [] []; simpa using this); rw [hp0]; have H5 := Lib.hid hnew; have hc1 := (Hg.out.new hnew).cell 1 _ rfl; clear hown hnew hp0)
    | (at_builtin; refine wpList_append_src _ rfl _ _ 49 rfl w.heap.size 22 (.slice none 0 0) 24 Try.underlying49 info22 rfl (.slice none 0 0) [] rfl (OwnV.nil _ _ _) (some ⟨w1.heap.size, 0, none⟩) 1 1 [.slice PA 0 pc] rfl ?ha (by simp [Value.oneCell']) (by decide) (by decide) ?hb ?_; (case ha => exact ⟨rfl, Nat.le_refl _, fun _ => ⟨_, _, rfl, fun j u hu => by rw [Nat.zero_add]; exact (Blk.fresh w1 22 #[.slice PA 0 pc]).cell j u (by simpa using hu)⟩⟩); (case hb => rw [World.size_alloc]; have := H5.out.size; omega); intro v w2 hown hgr hbk; have hn2 : New w1 w2 := ((Mod.refl _ w1).alloc _).grown hgr (fun k hk _ => by cases hk); have hc1' := hn2.cell hc1 (fun h => h); have H6 := Lib.hid (H5.out.trans hn2 (fun _ _ h => h) : New w w2); clear hown hgr hbk hn2))
  rw [rounds_succ]
  go_wp2_with (go_at_call 12; refine (packWith_long2 A n c none 0 0 w2 (by decide) h).mono ?_; rintro e w3 ⟨rfl, hn⟩; have H7 := Lib.hid (H6.out.trans hn (fun _ _ h => h) : New w w3); clear hn)
  go_ret2
  exact ⟨rfl, H7.out⟩

theorem per_zeros (n : Nat) : Per 1 (List.replicate n (0 : UInt8)) := by
  intro i hi
  rw [List.length_replicate] at hi
  rw [List.getD_eq_getElem?_getD, List.getD_eq_getElem?_getD, List.getElem?_replicate, List.getElem?_replicate, if_pos (by omega), if_pos (by omega)]

theorem made_rd (w : World) (L : Nat) : RdB (w.alloc (.cells (madeCells #[.int .u8 0] L) 5)) (some ⟨w.heap.size, 0, none⟩) L L (List.replicate L 0) := by
  refine ⟨by rw [bts_length, List.length_replicate], Nat.le_refl _, fun _ => ⟨_, _, rfl, fun j u hu => ?_⟩⟩
  have hj : j < L := by
    have := (List.getElem?_eq_some_iff.1 hu).1
    rwa [bts_length, List.length_replicate] at this
  rw [Nat.zero_add]
  refine (Blk.fresh w 5 (madeCells #[.int .u8 0] L)).cell j u ?_
  rw [← hu]
  unfold madeCells bts
  rw [List.getElem?_map, List.getElem?_replicate, if_pos hj]
  rw [Array.getElem?_eq_getElem (by simpa using hj)]
  simp [Nat.mod_one, B8]

theorem run_make_z (w : World) (L : Nat) (y : Int) (hy : y = (L : Int)) (hL : L ≤ 2000000) :
    (Instr.makeSlice 22 (.int .i64 y) (.int .i64 y)).run Try.prog w = .ok (.slice (some ⟨w.heap.size, 0, none⟩) L L) (w.alloc (.cells (madeCells #[.int .u8 0] L) 5)) := by
  subst hy
  obtain ⟨i, hi, hzz⟩ := Option.map_eq_some_iff.1 info5
  simp only [Prod.mk.injEq] at hzz
  obtain ⟨hz0, hz1, hz2⟩ := hzz
  have := run_make (P := Try.prog) w 22 5 i _ Try.underlying22 hi hz0 .i64 .i64 (L : Int) (L : Int) (by omega) (Int.le_refl _) (by rw [hz2]; omega) (by omega)
  rw [hz1, Int.toNat_natCast, Nat.mul_one] at this
  exact this

set_option maxRecDepth 100000 in
set_option maxHeartbeats 1000000 in
theorem packLimits_ok (x : UInt8) (w : World) : Calls Try.prog 9 #[.int .u8 (x.toNat : Int)] w fun e w' => e = .returned (.bool true) ∧ New w w' := by
  have hx : (x.toNat : Int) < 256 := by have := x.toNat_lt; omega
  obtain ⟨L, hL⟩ : ∃ L, 1048577 + x.toNat = L := ⟨_, rfl⟩
  have hL2 : L ≤ 2000000 := by omega
  have hL3 : 1048576 < (L : Int) := by omega
  have hmk := run_make_z w L (1048577 + (x.toNat : Int)) (by omega) hL2
  have hrd := made_rd w L
  have hnew : New w (w.alloc (.cells (madeCells #[.int .u8 0] L) 5)) := (Mod.refl _ _).alloc _
  obtain ⟨W, hW⟩ : ∃ W, w.alloc (.cells (madeCells #[.int .u8 0] L) 5) = W := ⟨_, rfl⟩
  rw [hW] at hmk hrd hnew
  obtain ⟨zs, hzs⟩ : ∃ zs, (List.replicate L (0 : UInt8)).take 1048576 = zs := ⟨_, rfl⟩
  have hz1 : zs.length = 1048576 := by rw [← hzs, List.length_take, List.length_replicate]; omega
  have hz2 : Per 1 zs := by
    rw [← hzs, List.take_replicate]
    exact per_zeros _
  obtain ⟨N, hN⟩ : ∃ N : Nat, N = 1048576 := ⟨_, rfl⟩
  have hrt := RdB.takeN hrd N (by omega)
  rw [hN] at hrt
  rw [← hN] at hzs hz1
  rw [hN] at hzs
  rw [hzs] at hrt
  have hpn0 := packB_per hz2 (Nat.le_refl 1) (by decide)
  obtain ⟨pn, hpn⟩ : ∃ pn, (packB [] zs).length = pn := ⟨_, rfl⟩
  rw [hpn, hz1, hN] at hpn0
  have hpn1 : (pn : Int) < 30000 := by
    have : (1048576 + 130) / 131 = 8005 := by decide
    omega
  have hun := unp_packB N [] zs (Nat.le_of_eq hz1)
  rw [hpn, List.length_nil, List.nil_append] at hun
  have hN' : ((N : Nat) : Int) = 1048576 := by omega
  have HR := Lib.hid (And.intro hrd hnew)
  have HZ := Lib.hid (And.intro hz1 (And.intro hrt (And.intro hun hpn)))
  have HN := Lib.hid (And.intro hN hN')
  clear hW hrd hnew hL hz1 hz2 hrt hun hpn hzs hN hN' hpn0
  go_enter Try.func9, Try.ntmps9
  go_wp2_with (first
    | (go_at_call 13; with_reducible (refine (pack_long (some ⟨w.heap.size, 0, none⟩) L L W hL3).mono ?_); rintro e w1 ⟨rfl, hn⟩; have H1 := Lib.hid (HR.out.2.trans hn (fun _ _ h => h) : New w w1); have H1r := Lib.hid (HZ.out.2.1.new hn); clear hn)
    | (go_at_call 12; with_reducible (refine (packWith_long1 (some ⟨w.heap.size, 0, none⟩) L L none 0 0 w1 hL3).mono ?_); rintro e w2 ⟨rfl, hn⟩; have H2 := Lib.hid (H1.out.trans hn (fun _ _ h => h) : New w w2); have H2r := Lib.hid (H1r.out.new hn); clear hn)
    | (go_at_call 17; with_reducible (refine (unpackWith_long (some ⟨w.heap.size, 0, none⟩) L L none 0 0 5 w2 (by decide) (by decide) hL3).mono ?_); rintro e w3 ⟨rfl, hn⟩; have H3 := Lib.hid (H2.out.trans hn (fun _ _ h => h) : New w w3); have H3r := Lib.hid (H2r.out.new hn); clear hn)
    | (go_at_call 22; refine (packList_long w3.heap.size (some ⟨w.heap.size, 0, none⟩) L L _ (Blk.fresh w3 22 _) hL3).mono ?_; rintro e w4 ⟨rfl, hn⟩; have H4 := Lib.hid (H3.out.trans (((Mod.refl (fun _ => False) w3).alloc _).trans hn (fun _ _ h => h)) (fun _ _ h => h) : New w w4); have H4r := Lib.hid (H3r.out.new (((Mod.refl (fun _ => False) w3).alloc _).trans hn (fun _ _ h => h))); clear hn)
    | (go_at_call 13; have hpk := pack_ok (some ⟨w.heap.size, 0, none⟩) 1048576 L zs w4 H4r.out (by decide); rw [HZ.out.2.2.2] at hpk; with_reducible (refine hpk.mono ?_); clear hpk; rintro e w5 ⟨PA, pc, rfl, hown, hn⟩; have hrp := OwnB.rd hown; rw [HZ.out.2.2.2] at hrp; have H5 := Lib.hid (And.intro hrp (H4.out.trans hn (fun _ _ h => h) : New w w5)); clear hown hrp hn)
    | (go_at_call 18; have hpk := unpack_some PA pn pc N (packB [] zs) zs w5 H5.out.1 (by have := HN.out.2; omega) (by omega) HZ.out.2.2.1; rw [HZ.out.1, HN.out.2, HN.out.1] at hpk; with_reducible (refine hpk.mono ?_); clear hpk; rintro e w6 ⟨UA, uc, rfl, hru, hn⟩; have H6 := Lib.hid (H5.out.2.trans hn (fun _ _ h => h) : New w w6); clear hn hru)
    | (go_at_call 14; with_reducible (refine (known_ok w6).mono ?_); rintro e w7 ⟨rfl, hn⟩; have H7 := Lib.hid (H6.out.trans hn (fun _ _ h => h) : New w w7); clear hn))
  go_ret
  exact ⟨rfl, H7.out⟩
end Go.Proofs.Ytcpiplfajgdohaa
