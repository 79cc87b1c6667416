/- The reference's token answers the token at an offset, as nextE tells. Conditions: those of each theorem. -/
import Derived.Test.YtcpiplfajgdohaaT24
import Derived.BigQuiet
namespace Go.Proofs.Ytcpiplfajgdohaa
open Go.RowKit

/-- What token answers. -/
abbrev TokPost (w : World) (tk : Tk × Nat × Nat) (e : Ending) (w' : World) : Prop :=
  ∃ A' c', e = .returned (.tuple #[.agg #[.slice A' tk.1.1.length c', .int .i64 (tk.1.2.1 : Nat), .int .i64 (tk.1.2.2 : Nat)], .int .i64 (tk.2.1 : Nat), .int .i64 (tk.2.2 : Nat)]) ∧ OwnV w' w.heap.size 5 (.slice A' tk.1.1.length c') (bts tk.1.1) ∧ New w w'

set_option maxRecDepth 100000 in
set_option maxHeartbeats 1000000 in
theorem token_ok (b o n c : Nat) (ps : List UInt8) (k : Nat) (w : World) (h : RdB w (some ⟨b, o, none⟩) n c ps) (hk : k < n) (hs : n ≤ 140737488351232) :
    Calls Try.prog 33 #[.slice (some ⟨b, o, none⟩) n c, .int .i64 (k : Int)] w (TokPost w (nextE (ps.drop k))) := by
  have hN : New w (w.alloc (.cells #[.slice none 0 0, .int .i64 0, .int .i64 0] 68)) := (Mod.refl _ _).alloc _
  have hl := h.blen
  have hcap := h.cap
  have hkc : k < c := by omega
  have hkI : (k : Int) < n := by omega
  have hnI : (n : Int) ≤ 140737488351232 := by omega
  obtain ⟨x, xs, hxs⟩ : ∃ x xs, ps.drop k = x :: xs := by
    rcases hh : ps.drop k with _ | ⟨x, xs⟩
    · have := congrArg List.length hh; rw [List.length_drop, hl] at this; simp at this; omega
    · exact ⟨x, xs, rfl⟩
  have hget : ∀ i, ps.getD (k + i) 0 = (x :: xs).getD i 0 := fun i => by
    rw [← hxs, List.getD_eq_getElem?_getD, List.getD_eq_getElem?_getD, List.getElem?_drop]
  have hlen : xs.length + 1 + k = n := by have := congrArg List.length hxs; rw [List.length_drop, hl] at this; simp at this; omega
  have hx := (h.new hN).byteD k (by omega)
  rw [show ps.getD k 0 = x from hget 0] at hx
  have hx256 : (x.toNat : Int) < 256 := by have := x.toNat_lt; omega
  rw [hxs]
  have HH := Lib.hid (And.intro h (And.intro hN (And.intro hget (And.intro hlen hxs))))
  clear h hN hget hl hxs hlen
  have hz : Blk (w.alloc (.cells #[.slice none 0 0, .int .i64 0, .int .i64 0] 68)) w.heap.size 68 #[.slice none 0 0, .int .i64 0, .int .i64 0] := Blk.fresh _ _ _
  have HZ := Lib.hid hz
  clear hz
  by_cases hlt : (x.toNat : Int) < 128
  · by_cases hsh : (n : Int) < (k : Int) + 1 + ((x.toNat : Int) + 1)
    · go_enter Try.func33, Try.ntmps33
      go_wp2
      have hnx : nextE (x :: xs) = (([], 0, 0), 0, 28) := by
        simp only [nextE]
        rw [if_pos (by omega), if_pos (by have := HH.out.2.2.2.1; omega)]
      rw [hnx]
      exact bodyPost_ret (res_ctt rfl _ _ w.heap.size 68 #[.slice none 0 0, .int .i64 0, .int .i64 0] (0, 0) _ rfl HZ.out Try.underlying68 rfl (by kernel_rfl)) rfl ⟨none, 0, rfl, OwnV.nil _ _ _, HH.out.2.1⟩
    · have hr : RdB (w.alloc (.cells #[.slice none 0 0, .int .i64 0, .int .i64 0] 68)) (some ⟨b, o + (k + 1), none⟩) (k + 1 + (x.toNat + 1) - (k + 1)) (c - (k + 1)) (xs.take (x.toNat + 1)) := by
        have hr := (HH.out.1.new HH.out.2.1).cut (k + 1) (k + 1 + (x.toNat + 1)) (c - (k + 1)) (by omega) (by omega) (by omega)
        have e : (bts ps |>.take (k + 1 + (x.toNat + 1))).drop (k + 1) = bts (xs.take (x.toNat + 1)) := by
          have hd : ps.drop (k + 1) = xs := by rw [← List.drop_drop, HH.out.2.2.2.2]; rfl
          rw [List.drop_take, bts, ← List.map_drop, hd, show k + 1 + (x.toNat + 1) - (k + 1) = x.toNat + 1 from by omega, bts, List.map_take]
        rw [e] at hr
        exact hr
      have Hr := Lib.hid hr
      clear hr
      have ho0 := own_lit0 (w.alloc (.cells #[.slice none 0 0, .int .i64 0, .int .i64 0] 68)) w.heap.size (by rw [World.size_alloc]; omega)
      rw [World.size_alloc] at ho0
      have Ho0 := Lib.hid ho0
      clear ho0
      go_enter Try.func33, Try.ntmps33
      go_wp2_with (at_builtin; refine append_n rfl _ _ rfl w.heap.size _ 0 0 [] rfl rfl Ho0.out (some ⟨b, o + (k + 1), none⟩) (k + 1 + (x.toNat + 1) - (k + 1)) (c - (k + 1)) (xs.take (x.toNat + 1)) rfl (Hr.out.new ((Mod.refl _ _).alloc _)) ?ha ?hb ?_; (case ha => omega); (case hb => rw [World.size_alloc, World.size_alloc]; omega); intro A6 c6 w6 hown hm hbk; rw [List.nil_append] at hown; rw [show 0 + (k + 1 + (x.toNat + 1) - (k + 1)) = x.toNat + 1 from by omega]; have hn6 : New (w.alloc (.cells #[.slice none 0 0, .int .i64 0, .int .i64 0] 68)) w6 := ((Mod.refl (fun _ => False) _).alloc _).trans hm (fun i hi hk' => by simp [At] at hk'; rw [World.size_alloc] at hi; omega); have hb := HZ.out.new hn6; have hb0 := hb.cell 0 _ rfl; have hb1 := hb.cell 1 _ rfl; have hb2 := hb.cell 2 _ rfl; have hf0 := hb.frozen 0; have hf1 := hb.frozen 1; have hf2 := hb.frozen 2; have Hb := Lib.hid (And.intro hb (And.intro hown hn6)); clear hb hown hn6 hm hbk)
      have h3 := ((Hb.out.1.put 0 (.slice A6 (x.toNat + 1) c6)).put 1 (.int .i64 0)).put 2 (.int .i64 0)
      have hm : Mod (fun k => k = w.heap.size) w6 (((w6.setCell ⟨w.heap.size, 0, none⟩ (.slice A6 (x.toNat + 1) c6)).setCell ⟨w.heap.size, 1, none⟩ (.int .i64 0)).setCell ⟨w.heap.size, 2, none⟩ (.int .i64 0)) :=
        (((Mod.refl (fun k => k = w.heap.size) w6).setCell ⟨w.heap.size, 0, none⟩ _ (fun _ => rfl)).setCell ⟨w.heap.size, 1, none⟩ _ (fun _ => rfl)).setCell ⟨w.heap.size, 2, none⟩ _ (fun _ => rfl)
      have hnx : nextE (x :: xs) = ((xs.take (x.toNat + 1), 0, 0), x.toNat + 2, 0) := by
        simp only [nextE]
        rw [if_pos (by omega), if_neg (by have := HH.out.2.2.2.1; omega)]
      have hle : (xs.take (x.toNat + 1)).length = x.toNat + 1 := by rw [List.length_take]; have := HH.out.2.2.2.1; omega
      have hown6 := Hb.out.2.1
      unfold OwnB at hown6
      rw [hle] at hown6
      rw [hnx]
      refine bodyPost_ret (res_ctt rfl _ _ w.heap.size 68 #[.slice A6 (x.toNat + 1) c6, .int .i64 0, .int .i64 0] (0, 0) _ rfl h3 Try.underlying68 rfl (by kernel_rfl)) rfl ⟨A6, c6, ?_, ?_, ?_⟩
      · simp only [hle]
        have e1 : (1 : Int) + ((x.toNat : Int) + 1) = ((x.toNat + 2 : Nat) : Int) := by omega
        simp only [← e1]
        rfl
      · simp only [hle]
        exact hown6.mod hm (hown6.ne_blk Hb.out.1 (by decide))
      · exact (HH.out.2.1.trans Hb.out.2.2 (fun _ _ h => h)).trans hm (fun i hi e => by omega)
  · by_cases h3 : (n : Int) < (k : Int) + 3
    · go_enter Try.func33, Try.ntmps33
      go_wp2
      have hnx : nextE (x :: xs) = (([], 0, 0), 0, 28) := by
        have := HH.out.2.2.2.1
        rcases xs with _ | ⟨y, _ | ⟨z, xs⟩⟩
        · simp only [nextE]; rw [if_neg (by omega)]
        · simp only [nextE]; rw [if_neg (by omega)]
        · simp at this; omega
      rw [hnx]
      exact bodyPost_ret (res_ctt rfl _ _ w.heap.size 68 #[.slice none 0 0, .int .i64 0, .int .i64 0] (0, 0) _ rfl HZ.out Try.underlying68 rfl (by kernel_rfl)) rfl ⟨none, 0, rfl, OwnV.nil _ _ _, HH.out.2.1⟩
    · obtain ⟨y, z, ys, rfl⟩ : ∃ y z ys, xs = y :: z :: ys := by
        have := HH.out.2.2.2.1
        rcases xs with _ | ⟨y, _ | ⟨z, xs⟩⟩
        · simp at this; omega
        · simp at this; omega
        · exact ⟨y, z, xs, rfl⟩
      have hy := (HH.out.1.new HH.out.2.1).byteD (k + 1) (by have := HH.out.1.blen; omega)
      have hz := (HH.out.1.new HH.out.2.1).byteD (k + 2) (by have := HH.out.1.blen; omega)
      rw [show ps.getD (k + 1) 0 = y from HH.out.2.2.1 1] at hy
      rw [show ps.getD (k + 2) 0 = z from HH.out.2.2.1 2] at hz
      have hy256 : (y.toNat : Int) < 256 := by have := y.toNat_lt; omega
      have hz256 : (z.toNat : Int) < 256 := by have := z.toNat_lt; omega
      have h1c : (k : Int) + 1 < n := by omega
      have h2c : (k : Int) + 2 < n := by omega
      have h1d : k + 1 < c := by omega
      have h2d : k + 2 < c := by omega
      by_cases hd : (y.toNat : Int) * 256 + z.toNat + 1 ≤ 4096
      · go_enter Try.func33, Try.ntmps33
        go_wp2
        go_quiet (fail)
        go_wp2
        have hnx : nextE (x :: y :: z :: ys) = (([], y.toNat * 256 + z.toNat + 1, x.toNat - 124), 3, 0) := by
          simp only [nextE]
          rw [if_neg (by omega), if_pos (by omega)]
        rw [hnx]
        have hB := (((HZ.out.new ((Mod.refl _ _).drewN nq)).put 0 (.slice none 0 0)).put 1 (.int .i64 ((y.toNat : Int) * 256 + z.toNat + 1))).put 2 (.int .i64 ((x.toNat : Int) - 128 + 4))
        have hM : New w (((((w.alloc (.cells #[.slice none 0 0, .int .i64 0, .int .i64 0] 68)).drewN nq).setCell ⟨w.heap.size, 0, none⟩ (.slice none 0 0)).setCell ⟨w.heap.size, 1, none⟩ (.int .i64 ((y.toNat : Int) * 256 + z.toNat + 1))).setCell ⟨w.heap.size, 2, none⟩ (.int .i64 ((x.toNat : Int) - 128 + 4))) :=
          (((HH.out.2.1.drewN nq).setCell ⟨w.heap.size, 0, none⟩ _ (fun h => absurd h (Nat.lt_irrefl _))).setCell ⟨w.heap.size, 1, none⟩ _ (fun h => absurd h (Nat.lt_irrefl _))).setCell ⟨w.heap.size, 2, none⟩ _ (fun h => absurd h (Nat.lt_irrefl _))
        refine bodyPost_ret (res_ctt rfl _ _ w.heap.size 68 #[.slice none 0 0, .int .i64 ((y.toNat : Int) * 256 + z.toNat + 1), .int .i64 ((x.toNat : Int) - 128 + 4)] (0, 0) _ rfl hB Try.underlying68 rfl (by kernel_rfl)) rfl ⟨none, 0, ?_, OwnV.nil _ _ _, hM⟩
        have e1 : ((x.toNat - 124 : Nat) : Int) = (x.toNat : Int) - 128 + 4 := by omega
        have e2 : ((y.toNat * 256 + z.toNat + 1 : Nat) : Int) = (y.toNat : Int) * 256 + z.toNat + 1 := by omega
        simp only [e1, e2]
        rfl
      · go_enter Try.func33, Try.ntmps33
        go_wp2
        go_quiet (fail)
        go_wp2
        have hnx : nextE (x :: y :: z :: ys) = (([], 0, 0), 0, 2) := by
          simp only [nextE]
          rw [if_neg (by omega), if_neg (by omega)]
        rw [hnx]
        have hB := (((HZ.out.new ((Mod.refl _ _).drewN nq)).put 0 (.slice none 0 0)).put 1 (.int .i64 0)).put 2 (.int .i64 0)
        have hM : New w (((((w.alloc (.cells #[.slice none 0 0, .int .i64 0, .int .i64 0] 68)).drewN nq).setCell ⟨w.heap.size, 0, none⟩ (.slice none 0 0)).setCell ⟨w.heap.size, 1, none⟩ (.int .i64 0)).setCell ⟨w.heap.size, 2, none⟩ (.int .i64 0)) :=
          (((HH.out.2.1.drewN nq).setCell ⟨w.heap.size, 0, none⟩ _ (fun h => absurd h (Nat.lt_irrefl _))).setCell ⟨w.heap.size, 1, none⟩ _ (fun h => absurd h (Nat.lt_irrefl _))).setCell ⟨w.heap.size, 2, none⟩ _ (fun h => absurd h (Nat.lt_irrefl _))
        exact bodyPost_ret (res_ctt rfl _ _ w.heap.size 68 #[.slice none 0 0, .int .i64 0, .int .i64 0] (0, 0) _ rfl hB Try.underlying68 rfl (by kernel_rfl)) rfl ⟨none, 0, rfl, OwnV.nil _ _ _, hM⟩
end Go.Proofs.Ytcpiplfajgdohaa
