/- learn notes all places before one. Conditions: those of each theorem. -/
import Derived.Test.YtcpiplfajgdohaaT10P
import Derived.BigQuiet
import Derived.Deep.QuietTactic
namespace Go.Proofs.Ytcpiplfajgdohaa
open Go.RowKit Go.Shelf

set_option maxRecDepth 100000 in
set_option maxHeartbeats 1000000 in
theorem learn_any (base F M : Nat) (Aa : Option Addr) (ca : Nat) (all : List UInt8) (kn : Nat) (l : List PE) (til : Nat) (w : World) (h : Fd w base F M Aa ca all kn l) (hk : kn ≤ til) (ht : til ≤ 3000000) (ha : all.length ≤ 3000000) :
    Calls Try.prog 35 #[.pointer (some ⟨F, 0, none⟩), .int .i64 (til : Int)] w fun e w' => e = .returned (.tuple #[]) ∧ ∃ kn' l', Fd w' base F M Aa ca all kn' l' ∧ Mod (Sf F M l) w w' ∧ Gr w l l' ∧ kn' ≤ til ∧ (kn' = til ∨ all.length < kn' + 4) := by
  have H := Lib.hid h
  clear h
  go_enter Try.func35, Try.ntmps35
  go_wp2
  go_loopw [4] (fun u4 wr => ∃ kn' l', kn' ≤ til ∧ Hid (Fd wr base F M Aa ca all kn' l' ∧ Mod (Sf F M l) w wr ∧ Gr w l l')) (fun _ wr => til - kOf wr F)
  case atStart => exact ⟨kn, l, hk, H.out, Mod.refl _ _, Gr.refl _ _⟩
  case round =>
    obtain ⟨kn', l', hkt, Hr⟩ := hrel
    have hc0 := Hr.out.1.blk.cell 0 _ rfl
    have hc1 := Hr.out.1.blk.cell 1 _ rfl
    have hc2 := Hr.out.1.blk.cell 2 _ rfl
    by_cases h1 : (kn' : Int) < til
    · by_cases h2 : (kn' : Int) + 4 ≤ all.length
      · have h3 : (kn' : Int) ≤ 3000000 := by omega
--BODY
        have hlen4 : ((all.drop kn').take 4).length = 4 := by rw [List.length_take, List.length_drop]; omega
        obtain ⟨x0, x1, x2, x3, hx⟩ := four_of_length hlen4
        have hrd := OwnB.rd Hr.out.1.own
        obtain ⟨b, o, rfl⟩ := hrd.addr (by omega)
        have hcap : kn' < ca := by have := hrd.cap; omega
        have hb0 := four_cells hrd hx
        obtain ⟨hb0, hb1, hb2, hb3⟩ := hb0
        have Hx := Lib.hid hx
        have hle : kn' ≤ all.length := by omega
        have hne : ¬ ca = kn' := by omega
        have hge : 4 ≤ all.length - kn' := by omega
        have harr : ∀ w, (Instr.arrayAt 78 (.slice (some ⟨b, o + kn', none⟩) (all.length - kn') (ca - kn'))).run Try.prog w = .ok (.pointer (some ⟨b, o + kn', none⟩)) w := fun w => run_arrayAt w b _ _ _ hge
        clear hrd hx hlen4
        go_wp2_with fail
        go_quiet (fail)
        go_wp2_with fail
        refine wp_region_heldD (S := fun W => W.cell? ⟨F, 0, none⟩ = some (.slice (some ⟨b, o, none⟩) all.length ca) ∧ W.cell? ⟨F, 2, none⟩ = some (.int .i64 kn') ∧ W.cell? ⟨b, o + kn', none⟩ = some (.int .u8 x0.toNat) ∧ W.cell? ⟨b, o + kn' + 1, none⟩ = some (.int .u8 x1.toNat) ∧ W.cell? ⟨b, o + kn' + 2, none⟩ = some (.int .u8 x2.toNat) ∧ W.cell? ⟨b, o + kn' + 3, none⟩ = some (.int .u8 x3.toNat)) (by kernel_rfl) ?_
        have hS0 : (wr.drewN nq).drew.cell? ⟨F, 0, none⟩ = some (.slice (some ⟨b, o, none⟩) all.length ca) ∧ (wr.drewN nq).drew.cell? ⟨F, 2, none⟩ = some (.int .i64 kn') ∧ (wr.drewN nq).drew.cell? ⟨b, o + kn', none⟩ = some (.int .u8 x0.toNat) ∧ (wr.drewN nq).drew.cell? ⟨b, o + kn' + 1, none⟩ = some (.int .u8 x1.toNat) ∧ (wr.drewN nq).drew.cell? ⟨b, o + kn' + 2, none⟩ = some (.int .u8 x2.toNat) ∧ (wr.drewN nq).drew.cell? ⟨b, o + kn' + 3, none⟩ = some (.int .u8 x3.toNat) := ⟨hc0, hc2, hb0, hb1, hb2, hb3⟩
        have HS0 := Lib.hid hS0
        clear hS0
        refine takeH 0 31 (v := ?v0) rfl rfl (by kernel_rfl) (by kernel_rfl) (by kernel_rfl) (fun _ _ _ h => h) (Or.inl ⟨by rfl, ?y0⟩) HS0.out ?r0
        case y0 => (intro w hSw; (try dsimp only at hSw); obtain ⟨hSw1, hSw2, hSw3, hSw4, hSw5, hSw6⟩ := hSw; go_simp; (try with_reducible rfl))
        simp only [List.setIfInBounds_toArray, List.set_cons_zero, List.set_cons_succ]
        refine takeH 1 32 (v := ?v1) rfl rfl (by kernel_rfl) (by kernel_rfl) (by kernel_rfl) (fun _ _ _ h => h) (Or.inl ⟨by rfl, ?y1⟩) HS0.out ?r1
        case y1 => (intro w hSw; (try dsimp only at hSw); obtain ⟨hSw1, hSw2, hSw3, hSw4, hSw5, hSw6⟩ := hSw; go_simp; (try with_reducible rfl))
        simp only [List.setIfInBounds_toArray, List.set_cons_zero, List.set_cons_succ]
        refine takeH 2 33 (v := ?v2) rfl rfl (by kernel_rfl) (by kernel_rfl) (by kernel_rfl) (fun _ _ _ h => h) (Or.inl ⟨by rfl, ?y2⟩) HS0.out ?r2
        case y2 => (intro w hSw; (try dsimp only at hSw); obtain ⟨hSw1, hSw2, hSw3, hSw4, hSw5, hSw6⟩ := hSw; go_simp; (try with_reducible rfl))
        simp only [List.setIfInBounds_toArray, List.set_cons_zero, List.set_cons_succ]
        refine takeH 3 34 (v := ?v3) rfl rfl (by kernel_rfl) (by kernel_rfl) (by kernel_rfl) (fun _ _ _ h => h) (Or.inl ⟨by rfl, ?y3⟩) HS0.out ?r3
        case y3 => (intro w hSw; (try dsimp only at hSw); obtain ⟨hSw1, hSw2, hSw3, hSw4, hSw5, hSw6⟩ := hSw; go_simp; (try with_reducible rfl))
        simp only [List.setIfInBounds_toArray, List.set_cons_zero, List.set_cons_succ]
        refine takeH 4 35 (v := ?v4) rfl rfl (by kernel_rfl) (by kernel_rfl) (by kernel_rfl) (fun _ _ _ h => h) (Or.inl ⟨by rfl, ?y4⟩) HS0.out ?r4
        case y4 => (intro w hSw; (try dsimp only at hSw); obtain ⟨hSw1, hSw2, hSw3, hSw4, hSw5, hSw6⟩ := hSw; go_simp; (try with_reducible rfl))
        simp only [List.setIfInBounds_toArray, List.set_cons_zero, List.set_cons_succ]
        refine takeH 5 36 (v := ?v5) rfl rfl (by kernel_rfl) (by kernel_rfl) (by kernel_rfl) (fun _ _ _ h => h) (Or.inl ⟨by rfl, ?y5⟩) HS0.out ?r5
        case y5 => (intro w hSw; (try dsimp only at hSw); obtain ⟨hSw1, hSw2, hSw3, hSw4, hSw5, hSw6⟩ := hSw; go_simp; (try with_reducible rfl))
        simp only [List.setIfInBounds_toArray, List.set_cons_zero, List.set_cons_succ]
        refine takeH 6 37 (v := ?v6) rfl rfl (by kernel_rfl) (by kernel_rfl) (by kernel_rfl) (fun _ _ _ h => h) (Or.inl ⟨by rfl, ?y6⟩) HS0.out ?r6
        case y6 => (intro w hSw; (try dsimp only at hSw); obtain ⟨hSw1, hSw2, hSw3, hSw4, hSw5, hSw6⟩ := hSw; go_simp; (try with_reducible rfl))
        simp only [List.setIfInBounds_toArray, List.set_cons_zero, List.set_cons_succ]
        refine takeH 7 38 (v := ?v7) rfl rfl (by kernel_rfl) (by kernel_rfl) (by kernel_rfl) (fun _ _ _ h => h) (Or.inl ⟨by rfl, ?y7⟩) HS0.out ?r7
        case y7 => (intro w hSw; (try dsimp only at hSw); obtain ⟨hSw1, hSw2, hSw3, hSw4, hSw5, hSw6⟩ := hSw; go_simp; (try with_reducible rfl))
        simp only [List.setIfInBounds_toArray, List.set_cons_zero, List.set_cons_succ]
        refine takeH 8 39 (v := ?v8) rfl rfl (by kernel_rfl) (by kernel_rfl) (by kernel_rfl) (fun _ _ _ h => h) (Or.inl ⟨by rfl, ?y8⟩) HS0.out ?r8
        case y8 => (intro w hSw; (try dsimp only at hSw); obtain ⟨hSw1, hSw2, hSw3, hSw4, hSw5, hSw6⟩ := hSw; go_simp; (try with_reducible rfl))
        simp only [List.setIfInBounds_toArray, List.set_cons_zero, List.set_cons_succ]
        refine takeH 9 40 (v := ?v9) rfl rfl (by kernel_rfl) (by kernel_rfl) (by kernel_rfl) (fun _ _ _ h => h) (Or.inl ⟨by rfl, ?y9⟩) HS0.out ?r9
        case y9 => (intro w hSw; (try dsimp only at hSw); obtain ⟨hSw1, hSw2, hSw3, hSw4, hSw5, hSw6⟩ := hSw; go_simp; (try with_reducible rfl))
        simp only [List.setIfInBounds_toArray, List.set_cons_zero, List.set_cons_succ]
        refine takeH 10 41 (v := ?v10) rfl rfl (by kernel_rfl) (by kernel_rfl) (by kernel_rfl) (fun _ _ _ h => h) (Or.inl ⟨by rfl, ?y10⟩) HS0.out ?r10
        case y10 => (intro w hSw; (try dsimp only at hSw); obtain ⟨hSw1, hSw2, hSw3, hSw4, hSw5, hSw6⟩ := hSw; go_simp; (try with_reducible rfl))
        simp only [List.setIfInBounds_toArray, List.set_cons_zero, List.set_cons_succ]
        have hSn : ∀ W', New wr W' → W'.cell? ⟨F, 0, none⟩ = some (.slice (some ⟨b, o, none⟩) all.length ca) ∧ W'.cell? ⟨F, 2, none⟩ = some (.int .i64 kn') ∧ W'.cell? ⟨b, o + kn', none⟩ = some (.int .u8 x0.toNat) ∧ W'.cell? ⟨b, o + kn' + 1, none⟩ = some (.int .u8 x1.toNat) ∧ W'.cell? ⟨b, o + kn' + 2, none⟩ = some (.int .u8 x2.toNat) ∧ W'.cell? ⟨b, o + kn' + 3, none⟩ = some (.int .u8 x3.toNat) :=
          fun W' hn => ⟨hn.cell hc0 (fun h => h), hn.cell hc2 (fun h => h), hn.cell hb0 (fun h => h), hn.cell hb1 (fun h => h), hn.cell hb2 (fun h => h), hn.cell hb3 (fun h => h)⟩
        have HSn := Lib.hid hSn
        clear hSn
        obtain ⟨W0, hW0⟩ : ∃ W0, (wr.drewN nq).drew = W0 := ⟨_, rfl⟩
        rw [hW0]
        have hN0 : New wr W0 := by rw [← hW0]; exact ((Mod.refl _ wr).drewN nq).drew
        have hN1 : ∀ ob, New wr (W0.alloc ob) := fun ob => hN0.alloc ob
        have HN1 := Lib.hid hN1
        clear hN0 hN1 hW0
        refine stepH' 11 4 rfl rfl (by kernel_rfl) (by rfl) ?_
        intro K hK
        refine wp_run (v := .pointer (some ⟨W0.heap.size, 0, none⟩)) (w' := W0.alloc (.cells #[.int .u8 0, .int .u8 0, .int .u8 0, .int .u8 0] 78)) (by go_simp) (hK _ _ (HSn.out _ (HN1.out _)) ?_)
        clear hK K
        simp only [List.setIfInBounds_toArray, List.set_cons_zero, List.set_cons_succ]
        refine stepHn 12 rfl rfl (by kernel_rfl) (by rfl) ?_
        intro K hK
        refine wp_run_skip (w' := W0.alloc (.cells #[.int .u8 x0.toNat, .int .u8 x1.toNat, .int .u8 x2.toNat, .int .u8 x3.toNat] 78)) (by go_simp) (hK _ _ (HSn.out _ (HN1.out _)) ?_)
        clear hK K
        refine wpAnyH_done (by kernel_rfl) ?_ _
        go_wp2_with fail
        have HN2 := Lib.hid (HN1.out (.cells #[.int .u8 x0.toNat, .int .u8 x1.toNat, .int .u8 x2.toNat, .int .u8 x3.toNat] 78))
        have hkb := Blk.fresh W0 78 #[.int .u8 x0.toNat, .int .u8 x1.toNat, .int .u8 x2.toNat, .int .u8 x3.toNat]
        obtain ⟨B4, hB4⟩ : ∃ B4, W0.heap.size = B4 := ⟨_, rfl⟩
        rw [hB4] at hkb ⊢
        obtain ⟨W1, hW1⟩ : ∃ W1, W0.alloc (.cells #[.int .u8 x0.toNat, .int .u8 x1.toNat, .int .u8 x2.toNat, .int .u8 x3.toNat] 78) = W1 := ⟨_, rfl⟩
        rw [hW1] at HN2 hkb ⊢
        have HB4 := Lib.hid hB4
        clear hB4 hW1 HN1 HSn
        have hk0 := hkb.cell 0 _ rfl
        have hk1 := hkb.cell 1 _ rfl
        have hk2 := hkb.cell 2 _ rfl
        have hk3 := hkb.cell 3 _ rfl
        have Hkb := Lib.hid hkb
        clear hkb
        refine wp_region_heldD (S := fun W => W.cell? ⟨F, 1, none⟩ = some (.map (some M)) ∧ W.cell? ⟨F, 2, none⟩ = some (.int .i64 kn') ∧ W.cell? ⟨B4, 0, none⟩ = some (.int .u8 x0.toNat) ∧ W.cell? ⟨B4, 1, none⟩ = some (.int .u8 x1.toNat) ∧ W.cell? ⟨B4, 2, none⟩ = some (.int .u8 x2.toNat) ∧ W.cell? ⟨B4, 3, none⟩ = some (.int .u8 x3.toNat)) (by kernel_rfl) ?_
        have hS0 : W1.drew.cell? ⟨F, 1, none⟩ = some (.map (some M)) ∧ W1.drew.cell? ⟨F, 2, none⟩ = some (.int .i64 kn') ∧ W1.drew.cell? ⟨B4, 0, none⟩ = some (.int .u8 x0.toNat) ∧ W1.drew.cell? ⟨B4, 1, none⟩ = some (.int .u8 x1.toNat) ∧ W1.drew.cell? ⟨B4, 2, none⟩ = some (.int .u8 x2.toNat) ∧ W1.drew.cell? ⟨B4, 3, none⟩ = some (.int .u8 x3.toNat) := ⟨HN2.out.cell hc1 (fun h => h), HN2.out.cell hc2 (fun h => h), hk0, hk1, hk2, hk3⟩
        have HS1 := Lib.hid hS0
        clear hS0
        refine takeH 0 42 (v := ?v0q) rfl rfl (by kernel_rfl) (by kernel_rfl) (by kernel_rfl) (fun _ _ _ h => h) (Or.inl ⟨by rfl, ?y0q⟩) HS1.out ?r0q
        case y0q => (intro w hSw; (try dsimp only at hSw); obtain ⟨hSw1, hSw2, hSw3, hSw4, hSw5, hSw6⟩ := hSw; go_simp; (try with_reducible rfl))
        simp only [List.setIfInBounds_toArray, List.set_cons_zero, List.set_cons_succ]
        refine takeH 1 43 (v := ?v1q) rfl rfl (by kernel_rfl) (by kernel_rfl) (by kernel_rfl) (fun _ _ _ h => h) (Or.inl ⟨by rfl, ?y1q⟩) HS1.out ?r1q
        case y1q => (intro w hSw; (try dsimp only at hSw); obtain ⟨hSw1, hSw2, hSw3, hSw4, hSw5, hSw6⟩ := hSw; go_simp; (try with_reducible rfl))
        simp only [List.setIfInBounds_toArray, List.set_cons_zero, List.set_cons_succ]
        refine takeH 2 44 (v := ?v2q) rfl rfl (by kernel_rfl) (by kernel_rfl) (by kernel_rfl) (fun _ _ _ h => h) (Or.inl ⟨by rfl, ?y2q⟩) HS1.out ?r2q
        case y2q => (intro w hSw; (try dsimp only at hSw); obtain ⟨hSw1, hSw2, hSw3, hSw4, hSw5, hSw6⟩ := hSw; go_simp; (try with_reducible rfl))
        simp only [List.setIfInBounds_toArray, List.set_cons_zero, List.set_cons_succ]
        refine takeH 3 45 (v := ?v3q) rfl rfl (by kernel_rfl) (by kernel_rfl) (by kernel_rfl) (fun _ _ _ h => h) (Or.inl ⟨by rfl, ?y3q⟩) HS1.out ?r3q
        case y3q => (intro w hSw; (try dsimp only at hSw); obtain ⟨hSw1, hSw2, hSw3, hSw4, hSw5, hSw6⟩ := hSw; go_simp; (try with_reducible rfl))
        simp only [List.setIfInBounds_toArray, List.set_cons_zero, List.set_cons_succ]
        refine takeH 4 46 (v := ?v4q) rfl rfl (by kernel_rfl) (by kernel_rfl) (by kernel_rfl) (fun _ _ _ h => h) (Or.inl ⟨by rfl, ?y4q⟩) HS1.out ?r4q
        case y4q => (intro w hSw; (try dsimp only at hSw); obtain ⟨hSw1, hSw2, hSw3, hSw4, hSw5, hSw6⟩ := hSw; go_simp; (try with_reducible rfl))
        simp only [List.setIfInBounds_toArray, List.set_cons_zero, List.set_cons_succ]
        refine takeH 5 48 (v := ?v5q) rfl rfl (by kernel_rfl) (by kernel_rfl) (by kernel_rfl) (fun _ _ _ h => h) (Or.inl ⟨by rfl, ?y5q⟩) HS1.out ?r5q
        case y5q => (intro w hSw; (try dsimp only at hSw); obtain ⟨hSw1, hSw2, hSw3, hSw4, hSw5, hSw6⟩ := hSw; go_simp; (try with_reducible rfl))
        simp only [List.setIfInBounds_toArray, List.set_cons_zero, List.set_cons_succ]
        refine takeH 6 49 (v := ?v6q) rfl rfl (by kernel_rfl) (by kernel_rfl) (by kernel_rfl) (fun _ _ _ h => h) (Or.inl ⟨by rfl, ?y6q⟩) HS1.out ?r6q
        case y6q => (intro w hSw; (try dsimp only at hSw); obtain ⟨hSw1, hSw2, hSw3, hSw4, hSw5, hSw6⟩ := hSw; go_simp; (try with_reducible rfl))
        simp only [List.setIfInBounds_toArray, List.set_cons_zero, List.set_cons_succ]
        refine takeH 7 50 (v := ?v7q) rfl rfl (by kernel_rfl) (by kernel_rfl) (by kernel_rfl) (fun _ _ _ h => h) (Or.inl ⟨by rfl, ?y7q⟩) HS1.out ?r7q
        case y7q => (intro w hSw; (try dsimp only at hSw); obtain ⟨hSw1, hSw2, hSw3, hSw4, hSw5, hSw6⟩ := hSw; go_simp; (try with_reducible rfl))
        simp only [List.setIfInBounds_toArray, List.set_cons_zero, List.set_cons_succ]
        refine takeH 8 51 (v := ?v8q) rfl rfl (by kernel_rfl) (by kernel_rfl) (by kernel_rfl) (fun _ _ _ h => h) (Or.inl ⟨by rfl, ?y8q⟩) HS1.out ?r8q
        case y8q => (intro w hSw; (try dsimp only at hSw); obtain ⟨hSw1, hSw2, hSw3, hSw4, hSw5, hSw6⟩ := hSw; go_simp; (try with_reducible rfl))
        simp only [List.setIfInBounds_toArray, List.set_cons_zero, List.set_cons_succ]
        have hMW1 : MapB W1 M l' := Hr.out.1.map.mod HN2.out (fun h => h)
        have hFW1 := Hr.out.1.blk.new HN2.out
        have hSm : ∀ W', Mod (fun k => k = M) W1 W' → W'.cell? ⟨F, 1, none⟩ = some (.map (some M)) ∧ W'.cell? ⟨F, 2, none⟩ = some (.int .i64 kn') ∧ W'.cell? ⟨B4, 0, none⟩ = some (.int .u8 x0.toNat) ∧ W'.cell? ⟨B4, 1, none⟩ = some (.int .u8 x1.toNat) ∧ W'.cell? ⟨B4, 2, none⟩ = some (.int .u8 x2.toNat) ∧ W'.cell? ⟨B4, 3, none⟩ = some (.int .u8 x3.toNat) :=
          fun W' hm => by
            have h1 := hFW1.mod hm (hFW1.ne_map hMW1)
            have h2 := Hkb.out.mod hm (Hkb.out.ne_map hMW1)
            exact ⟨h1.cell 1 _ rfl, h1.cell 2 _ rfl, h2.cell 0 _ rfl, h2.cell 1 _ rfl, h2.cell 2 _ rfl, h2.cell 3 _ rfl⟩
        have HSm := Lib.hid hSm
        clear hSm hMW1 hFW1
        obtain ⟨W2, hW2⟩ : ∃ W2, W1.drew.alloc (.cells #[.int .i64 (kn' : Int)] 3) = W2 := ⟨_, rfl⟩
        have hN12 : New W1 W2 := by rw [← hW2]; exact ((Mod.refl _ W1).drew).alloc _
        have hB2 : RdV W2 (some ⟨W1.heap.size, 0, none⟩) 1 1 (ints [kn']) := by rw [← hW2]; exact rd_onei _ kn'
        have hN02 : New wr W2 := HN2.out.trans hN12 (fun _ _ h => h)
        have hlen4 : ([x0, x1, x2, x3] : List UInt8).length = 4 := rfl
        have hrow2 : Rows_ W2 base l' := fun e he => OwnV.new (Hr.out.1.rows e he) hN02
        obtain ⟨W3, l2, j, e2, hrun3, hM3, hj2, hek2, hm3, hc3, hr3, ha3, hg3⟩ := learn_entry (Hr.out.1.map.mod hN02 (fun h => h)) Hr.out.1.cont hrow2 Hr.out.1.apart hlen4
        rw [kv_four] at hrun3
        have H2 := Lib.hid (And.intro hN12 (And.intro hB2 (And.intro hN02 (And.intro hM3 (And.intro hj2 (And.intro hek2 (And.intro hm3 (And.intro hc3 (And.intro hr3 (And.intro ha3 hg3))))))))))
        have hl2 : e2.ps.length ≤ 3000000 := by
          rw [hc3.ps e2 (List.mem_of_getElem? hj2)]
          have := posOf_length all kn' e2.k
          omega
        clear hN12 hB2 hN02 hlen4 hrow2 hM3 hj2 hek2 hm3 hc3 hr3 ha3 hg3
        refine stepH' 9 52 rfl rfl (by kernel_rfl) (by rfl) ?_
        intro K hK
        refine wp_run (v := .slice (some ⟨W1.heap.size, 0, none⟩) 1 1) (w' := W2) (by rw [← hW2]; go_simp) (hK _ _ (HSm.out _ (Mod.new H2.out.1)) ?_)
        clear hK K
        have HW2 := Lib.hid hW2
        clear hW2
        simp only [List.setIfInBounds_toArray, List.set_cons_zero, List.set_cons_succ]
        refine stepH' 10 53 rfl rfl (by kernel_rfl) (by rfl) ?_
        intro K hK
        refine wp_run (v := .tuple #[.slice e2.A e2.ps.length e2.c, .int .i64 (j : Nat)]) (w' := W3) (by go_simp) (hK _ _ (HSm.out _ ((Mod.new H2.out.1).trans H2.out.2.2.2.2.2.2.1 (fun _ _ e => e))) ?_)
        clear hK K
        simp only [List.setIfInBounds_toArray, List.set_cons_zero, List.set_cons_succ]
        have HS3 := Lib.hid (HSm.out _ ((Mod.new H2.out.1).trans H2.out.2.2.2.2.2.2.1 (fun _ _ e => e)))
        refine takeH 11 47 (v := ?v11s) rfl rfl (by kernel_rfl) (by kernel_rfl) (by kernel_rfl) (fun _ _ _ h => h) (Or.inl ⟨by rfl, ?y11s⟩) HS3.out ?r11s
        case y11s => (intro w hSw; (try dsimp only at hSw); go_simp; (try with_reducible rfl))
        simp only [List.setIfInBounds_toArray, List.set_cons_zero, List.set_cons_succ]
        refine takeH 13 55 (v := ?v13s) rfl rfl (by kernel_rfl) (by kernel_rfl) (by kernel_rfl) (fun _ _ _ h => h) (Or.inl ⟨by rfl, ?y13s⟩) HS3.out ?r13s
        case y13s => (intro w hSw; (try dsimp only at hSw); go_simp; (try with_reducible rfl))
        simp only [List.setIfInBounds_toArray, List.set_cons_zero, List.set_cons_succ]
        clear hrun3
        have hbase3 : base ≤ W3.heap.size := by
          have := HN2.out.size
          have := H2.out.1.size
          have := H2.out.2.2.2.2.2.2.1.size
          have := Hr.out.1.bF
          have := Hr.out.1.blk.lt
          omega
        have hr3' : RdV W3 (some ⟨W1.heap.size, 0, none⟩) 1 1 (ints [kn']) := H2.out.2.1.mod H2.out.2.2.2.2.2.2.1 (by
          intro ad had e
          injection had with had
          subst had
          have := Hr.out.1.map.lt
          have := HN2.out.size
          simp at e
          omega)
        refine stepH' 12 54 rfl rfl (by kernel_rfl) (by rfl) ?_
        intro K hK
        refine wp_append_i _ _ rfl base e2.A e2.ps.length e2.c e2.ps rfl rfl (H2.out.2.2.2.2.2.2.2.2.1 e2 (List.mem_of_getElem? H2.out.2.2.2.2.1)) (some ⟨W1.heap.size, 0, none⟩) 1 1 [kn'] rfl hr3' (by omega) hbase3 ?_
        intro A4 c4 W4 hown4 hm4 hk4
        have hmid := learn_mid Hr.out.1 H2.out.2.2.1 H2.out.2.2.2.1 H2.out.2.2.2.2.1 H2.out.2.2.2.2.2.2.1 H2.out.2.2.2.2.2.2.2.2.1 H2.out.2.2.2.2.2.2.2.2.2.1 H2.out.2.2.2.2.2.2.2.2.2.2 hown4 hm4 hk4
        have hB4b : Blk W4 B4 78 #[.int .u8 x0.toNat, .int .u8 x1.toNat, .int .u8 x2.toNat, .int .u8 x3.toNat] := by
          have hMW1 : MapB W1 M l' := Hr.out.1.map.mod HN2.out (fun h => h)
          have h2 := Hkb.out.mod ((Mod.new H2.out.1).trans H2.out.2.2.2.2.2.2.1 (fun _ _ e => e)) (Hkb.out.ne_map hMW1)
          exact h2.mod hm4 (OwnV.at_ne (H2.out.2.2.2.2.2.2.2.2.1 e2 (List.mem_of_getElem? H2.out.2.2.2.2.1)) h2 (by decide))
        have hMap4 := hmid.1
        have hF4 := hmid.2.2.1
        have hS4 : W4.cell? ⟨F, 1, none⟩ = some (.map (some M)) ∧ W4.cell? ⟨F, 2, none⟩ = some (.int .i64 kn') ∧ W4.cell? ⟨B4, 0, none⟩ = some (.int .u8 x0.toNat) ∧ W4.cell? ⟨B4, 1, none⟩ = some (.int .u8 x1.toNat) ∧ W4.cell? ⟨B4, 2, none⟩ = some (.int .u8 x2.toNat) ∧ W4.cell? ⟨B4, 3, none⟩ = some (.int .u8 x3.toNat) :=
          ⟨hF4.cell 1 _ rfl, hF4.cell 2 _ rfl, hB4b.cell 0 _ rfl, hB4b.cell 1 _ rfl, hB4b.cell 2 _ rfl, hB4b.cell 3 _ rfl⟩
        refine hK _ _ hS4 ?_
        clear hK K
        simp only [List.setIfInBounds_toArray, List.set_cons_zero, List.set_cons_succ]
        obtain ⟨W5, hW5⟩ : ∃ W5, W4.putObj M (.map (mEnt 0 (l2.set j ⟨e2.k, e2.ps ++ [kn'], A4, c4⟩)).toArray (l2.set j ⟨e2.k, e2.ps ++ [kn'], A4, c4⟩).length) = W5 := ⟨_, rfl⟩
        have hrun5 := run_entryStore W4 hMap4 H2.out.2.2.2.2.1 A4 (e2.ps ++ [kn']) c4
        rw [hW5, show (e2.ps ++ [kn']).length = e2.ps.length + 1 from by simp] at hrun5
        have hF5 : Blk W5 F 61 #[.slice (some ⟨b, o, none⟩) all.length ca, .map (some M), .int .i64 kn'] := by
          rw [← hW5]
          exact hF4.mod putObj_mod (hF4.ne_map hMap4)
        have hB5 : Blk W5 B4 78 #[.int .u8 x0.toNat, .int .u8 x1.toNat, .int .u8 x2.toNat, .int .u8 x3.toNat] := by
          rw [← hW5]
          exact hB4b.mod putObj_mod (hB4b.ne_map hMap4)
        have HF5 := Lib.hid (And.intro hF5 (And.intro hown4 (And.intro hm4 (And.intro hk4 hW5.symm))))
        have hd2 := hF5.cell 2 _ rfl
        have hf2 := hF5.frozen 2
        have hS5 : W5.cell? ⟨F, 1, none⟩ = some (.map (some M)) ∧ W5.cell? ⟨F, 2, none⟩ = some (.int .i64 kn') ∧ W5.cell? ⟨B4, 0, none⟩ = some (.int .u8 x0.toNat) ∧ W5.cell? ⟨B4, 1, none⟩ = some (.int .u8 x1.toNat) ∧ W5.cell? ⟨B4, 2, none⟩ = some (.int .u8 x2.toNat) ∧ W5.cell? ⟨B4, 3, none⟩ = some (.int .u8 x3.toNat) :=
          ⟨hF5.cell 1 _ rfl, hF5.cell 2 _ rfl, hB5.cell 0 _ rfl, hB5.cell 1 _ rfl, hB5.cell 2 _ rfl, hB5.cell 3 _ rfl⟩
        clear hmid hB4b hMap4 hF4 hS4 hr3' hbase3 hB5 hF5 hown4 hm4 hk4 hW5
        refine stepHn 14 rfl rfl (by kernel_rfl) (by rfl) ?_
        intro K hK
        refine wp_run_skip (w' := W5) (by go_simp) (hK _ _ hS5 ?_)
        clear hK K hrun5 hS5
        refine wpAnyH_done (by kernel_rfl) ?_ _
        clear HS3 HSm HS1 HS0
        go_wp2_with fail
        have hend := learn_end (W6 := W5) Hr.out.1 H2.out.2.2.1 H2.out.2.2.2.1 H2.out.2.2.2.2.1 (by rw [Hx.out, H2.out.2.2.2.2.2.1]) H2.out.2.2.2.2.2.2.1 H2.out.2.2.2.2.2.2.2.1 H2.out.2.2.2.2.2.2.2.2.1 H2.out.2.2.2.2.2.2.2.2.2.1 H2.out.2.2.2.2.2.2.2.2.2.2 HF5.out.2.1 HF5.out.2.2.1 HF5.out.2.2.2.1 HF5.out.2.2.2.2 (Mod.refl _ _)
        obtain ⟨e1, e2', e3'⟩ := hend
        rw [show ((kn' + 1 : Nat) : Int) = (kn' : Int) + 1 from by omega] at e1 e2'
        refine ⟨⟨kn' + 1, l2.set j ⟨e2.k, e2.ps ++ [kn'], A4, c4⟩, by omega, e1, Sf.trans Hr.out.2.1 e2' Hr.out.2.2, Gr.trans Hr.out.2.2 e3' Hr.out.2.1.size⟩, ?_⟩
        rw [Fd.kOf e1, Fd.kOf Hr.out.1]
        omega
--END
      · have h3 : (kn' : Int) ≤ 3000000 := by omega
        go_wp2_with fail
        go_quiet (fail)
        go_wp2_with fail
        go_end0
        exact ⟨rfl, kn', l', Fd.new Hr.out.1 ((Mod.refl _ _).drewN _), Hr.out.2.1.drewN _, Hr.out.2.2, hkt, .inr (by omega)⟩
    · have h3 : (kn' : Int) ≤ 3000000 := by omega
      have h4 : ¬ kn' < til := by omega
      go_wp2_with fail
      go_quiet (fail)
      go_wp2_with fail
      go_end0
      exact ⟨rfl, kn', l', Fd.new Hr.out.1 ((Mod.refl _ _).drewN _), Hr.out.2.1.drewN _, Hr.out.2.2, hkt, .inl (by omega)⟩
end Go.Proofs.Ytcpiplfajgdohaa
