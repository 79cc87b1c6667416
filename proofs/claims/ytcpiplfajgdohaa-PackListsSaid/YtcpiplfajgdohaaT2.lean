/- next returns the token at the beginning of a packed form, as nextE tells. Conditions: those of each theorem. -/
import Derived.Test.YtcpiplfajgdohaaT1
import Derived.BigQuiet
import Derived.Deep.QuietTactic
import Derived.StillTailTactics
import Derived.Outline
import Derived.IntWalk
namespace Go.Proofs.Ytcpiplfajgdohaa
open Go.RowKit

set_option maxRecDepth 100000 in
set_option maxHeartbeats 400000 in
theorem next_short (ad : Addr) (n c : Nat) (x : UInt8) (w : World) (hx : w.cell? ad = some (.int .u8 (x.toNat : Int))) (h0 : 0 < n) (hlt : (x.toNat : Int) < 128) (hn : (n : Int) < (x.toNat : Int) + 2) :
    Calls Try.prog 32 #[.slice (some ad) n c] w fun e w' => e = .returned (.tuple #[.agg #[.slice none 0 0, .int .i64 0, .int .i64 0], .int .i64 0, .int .i64 28]) ∧ New w w' := by
  have hx1 : (w.alloc (.cells #[.slice none 0 0, .int .i64 0, .int .i64 0] 47)).cell? ad = some (.int .u8 (x.toNat : Int)) := (Mod.refl (fun _ => False) w |>.alloc _).cell hx (fun h => h)
  go_enter Try.func32, Try.ntmps32
  go_wp2
  refine bodyPost_ret (res_ctt rfl _ _ w.heap.size 47 #[.slice none 0 0, .int .i64 0, .int .i64 0] (0, 0) _ rfl (heap_alloc_new _ _) Try.underlying47 rfl (by kernel_rfl)) rfl ⟨rfl, ?_⟩
  exact (Mod.refl _ w).alloc _

set_option maxRecDepth 100000 in
set_option maxHeartbeats 400000 in
theorem next_lits (b o n c : Nat) (x : UInt8) (xs : List UInt8) (w : World) (h : RdB w (some ⟨b, o, none⟩) n c (x :: xs)) (hlt : (x.toNat : Int) < 128) (hn : (x.toNat : Int) + 2 ≤ n) (hs : n ≤ 140737488351232) :
    Calls Try.prog 32 #[.slice (some ⟨b, o, none⟩) n c] w fun e w' => ∃ A' c', e = .returned (.tuple #[.agg #[.slice A' (x.toNat + 1) c', .int .i64 0, .int .i64 0], .int .i64 ((x.toNat : Int) + 2), .int .i64 0]) ∧ OwnV w' w.heap.size 5 (.slice A' (x.toNat + 1) c') (bts (xs.take (x.toNat + 1))) ∧ New w w' := by
  have hN : New w (w.alloc (.cells #[.slice none 0 0, .int .i64 0, .int .i64 0] 47)) := (Mod.refl _ _).alloc _
  have hx1 := (h.new hN).byte 0 (by simp)
  simp only [List.getElem_cons_zero, Nat.add_zero] at hx1
  have hc := h.cap
  have h0 : 0 < n := by omega
  have hl := h.blen
  have hr : RdB (w.alloc (.cells #[.slice none 0 0, .int .i64 0, .int .i64 0] 47)) (some ⟨b, o + 1, none⟩) (x.toNat + 1) (c - 1) (xs.take (x.toNat + 1)) := by
    have hr := (h.new hN).cut 1 (x.toNat + 2) (c - 1) (by omega) (by omega) (by omega)
    rw [show x.toNat + 2 - 1 = x.toNat + 1 from by omega] at hr
    simpa [RdB, bts, List.map_take] using hr
  have hr' := Lib.hid hr
  have hN' := Lib.hid hN
  clear hr h hl hN
  go_enter Try.func32, Try.ntmps32
  go_wp2_with (go_at_call 31; refine (clone_any _ _ _ (xs.take (x.toNat + 1)) _ hr'.out (by omega)).mono ?_; rintro e w1 ⟨A', c', rfl, hown, hnew⟩; have hb := (Blk.fresh w 47 #[.slice none 0 0, .int .i64 0, .int .i64 0]).new hnew; have hb0 := hb.cell 0 _ rfl; have hb1 := hb.cell 1 _ rfl; have hb2 := hb.cell 2 _ rfl; have hf0 := hb.frozen 0; have hf1 := hb.frozen 1; have hf2 := hb.frozen 2; have Hb := Lib.hid hb; have Hown := Lib.hid hown; have Hnew := Lib.hid hnew; clear hb hown hnew)
  have h3 := ((Hb.out.put 0 (.slice A' (x.toNat + 1) c')).put 1 (.int .i64 0)).put 2 (.int .i64 0)
  have hm : Mod (fun k => k = w.heap.size) w1 (((w1.setCell ⟨w.heap.size, 0, none⟩ (.slice A' (x.toNat + 1) c')).setCell ⟨w.heap.size, 1, none⟩ (.int .i64 0)).setCell ⟨w.heap.size, 2, none⟩ (.int .i64 0)) :=
    (((Mod.refl (fun k => k = w.heap.size) w1).setCell ⟨w.heap.size, 0, none⟩ _ (fun _ => rfl)).setCell ⟨w.heap.size, 1, none⟩ _ (fun _ => rfl)).setCell ⟨w.heap.size, 2, none⟩ _ (fun _ => rfl)
  refine bodyPost_ret (res_ctt rfl _ _ w.heap.size 47 #[.slice A' (x.toNat + 1) c', .int .i64 0, .int .i64 0] (0, 0) _ rfl h3 Try.underlying47 rfl (by kernel_rfl)) rfl ⟨A', c', rfl, ?_, ?_⟩
  · exact (Hown.out.mod hm (Hown.out.ne_blk Hb.out (by decide))).lower (by simp)
  · exact (hN'.out.trans Hnew.out (fun _ _ h => h)).trans hm (fun i hi e => by omega)

set_option maxRecDepth 100000 in
set_option maxHeartbeats 400000 in
theorem next_cut (b o n c : Nat) (x : UInt8) (w : World) (hx : w.cell? ⟨b, o, none⟩ = some (.int .u8 (x.toNat : Int))) (h0 : 0 < n) (hlt : 128 ≤ (x.toNat : Int)) (hn : (n : Int) < 3) :
    Calls Try.prog 32 #[.slice (some ⟨b, o, none⟩) n c] w fun e w' => e = .returned (.tuple #[.agg #[.slice none 0 0, .int .i64 0, .int .i64 0], .int .i64 0, .int .i64 28]) ∧ New w w' := by
  have hx1 : (w.alloc (.cells #[.slice none 0 0, .int .i64 0, .int .i64 0] 47)).cell? ⟨b, o, none⟩ = some (.int .u8 (x.toNat : Int)) := (Mod.refl (fun _ => False) w |>.alloc _).cell hx (fun h => h)
  go_enter Try.func32, Try.ntmps32
  go_wp2
  refine bodyPost_ret (res_ctt rfl _ _ w.heap.size 47 #[.slice none 0 0, .int .i64 0, .int .i64 0] (0, 0) _ rfl (heap_alloc_new _ _) Try.underlying47 rfl (by kernel_rfl)) rfl ⟨rfl, ?_⟩
  exact (Mod.refl _ w).alloc _

set_option maxRecDepth 100000 in
set_option maxHeartbeats 400000 in
theorem next_match (b o n c : Nat) (x y z : UInt8) (w : World) (hx : w.cell? ⟨b, o, none⟩ = some (.int .u8 (x.toNat : Int))) (hy : w.cell? ⟨b, o + 1, none⟩ = some (.int .u8 (y.toNat : Int))) (hz : w.cell? ⟨b, o + 2, none⟩ = some (.int .u8 (z.toNat : Int)))
    (hlt : 128 ≤ (x.toNat : Int)) (hn : 3 ≤ (n : Int)) (hd : (y.toNat : Int) * 256 + z.toNat + 1 ≤ 4096) :
    Calls Try.prog 32 #[.slice (some ⟨b, o, none⟩) n c] w fun e w' => e = .returned (.tuple #[.agg #[.slice none 0 0, .int .i64 ((y.toNat : Int) * 256 + z.toNat + 1), .int .i64 ((x.toNat : Int) - 128 + 4)], .int .i64 3, .int .i64 0]) ∧ New w w' := by
  have hx1 : (w.alloc (.cells #[.slice none 0 0, .int .i64 0, .int .i64 0] 47)).cell? ⟨b, o, none⟩ = some (.int .u8 (x.toNat : Int)) := (Mod.refl (fun _ => False) w |>.alloc _).cell hx (fun h => h)
  have hy1 : (w.alloc (.cells #[.slice none 0 0, .int .i64 0, .int .i64 0] 47)).cell? ⟨b, o + 1, none⟩ = some (.int .u8 (y.toNat : Int)) := (Mod.refl (fun _ => False) w |>.alloc _).cell hy (fun h => h)
  have hz1 : (w.alloc (.cells #[.slice none 0 0, .int .i64 0, .int .i64 0] 47)).cell? ⟨b, o + 2, none⟩ = some (.int .u8 (z.toNat : Int)) := (Mod.refl (fun _ => False) w |>.alloc _).cell hz (fun h => h)
  clear hx hy hz
  have hx2 : (x.toNat : Int) ≤ 255 := by have := x.toNat_lt; omega
  have hz2 : (z.toNat : Int) ≤ 255 := by have := z.toNat_lt; omega
  have h1 : (1 : Int) < n := by omega
  have h2 : (2 : Int) < n := by omega
  have h0 : 0 < n := by omega
  have y2 : (y.toNat : Int) ≤ 255 := by have := y.toNat_lt; omega
  have e1 : IntKind.i64.wrap (y.toNat : Int) = y.toNat := IntWalk.i64_in _ (by omega)
  have e2 : IntKind.i64.wrap (z.toNat : Int) = z.toNat := IntWalk.i64_in _ (by omega)
  have e3 : IntKind.i64.wrap (x.toNat : Int) = x.toNat := IntWalk.i64_in _ (by omega)
  have e4 : IntKind.i64.wrap ((y.toNat : Int) * 256) = y.toNat * 256 := IntWalk.i64_in _ (by omega)
  have e5 : IntKind.i64.wrap ((y.toNat : Int) * 256 + z.toNat) = y.toNat * 256 + z.toNat := IntWalk.i64_in _ (by omega)
  have e6 : IntKind.i64.wrap ((y.toNat : Int) * 256 + z.toNat + 1) = y.toNat * 256 + z.toNat + 1 := IntWalk.i64_in _ (by omega)
  have e7 : IntKind.i64.wrap ((x.toNat : Int) - 128) = x.toNat - 128 := IntWalk.i64_in _ (by omega)
  have e8 : IntKind.i64.wrap ((x.toNat : Int) - 128 + 4) = x.toNat - 128 + 4 := IntWalk.i64_in _ (by omega)
  go_enter Try.func32, Try.ntmps32
  go_wp2
  refine wp_region_still_tail 18 (by kernel_rfl) (by kernel_rfl) ?_
  change wpStill _ _ (World.drew _) (fun a' => wpList _ _ _ _ a' (World.drew _)) _ _
  simp only [List.take_succ_cons, List.take_zero, List.drop_succ_cons, List.drop_zero]
  repeat still_step
  try refine wpStill_nil ?_
  go_wp2
  refine bodyPost_ret (res_ctt rfl _ _ w.heap.size 47 #[.slice none 0 0, .int .i64 ((y.toNat : Int) * 256 + z.toNat + 1), .int .i64 ((x.toNat : Int) - 128 + 4)] (0, 0) _ rfl ?_ Try.underlying47 rfl (by kernel_rfl)) rfl ⟨rfl, ?_⟩
  · exact heap_alloc_new w _
  · exact ((Mod.refl _ w).alloc _).drew
set_option maxRecDepth 100000 in
set_option maxHeartbeats 400000 in
theorem next_far (b o n c : Nat) (x y z : UInt8) (w : World) (hx : w.cell? ⟨b, o, none⟩ = some (.int .u8 (x.toNat : Int))) (hy : w.cell? ⟨b, o + 1, none⟩ = some (.int .u8 (y.toNat : Int))) (hz : w.cell? ⟨b, o + 2, none⟩ = some (.int .u8 (z.toNat : Int)))
    (hlt : 128 ≤ (x.toNat : Int)) (hn : 3 ≤ (n : Int)) (hd : 4096 < (y.toNat : Int) * 256 + z.toNat + 1) :
    Calls Try.prog 32 #[.slice (some ⟨b, o, none⟩) n c] w fun e w' => e = .returned (.tuple #[.agg #[.slice none 0 0, .int .i64 0, .int .i64 0], .int .i64 0, .int .i64 2]) ∧ New w w' := by
  have hx1 : (w.alloc (.cells #[.slice none 0 0, .int .i64 0, .int .i64 0] 47)).cell? ⟨b, o, none⟩ = some (.int .u8 (x.toNat : Int)) := (Mod.refl (fun _ => False) w |>.alloc _).cell hx (fun h => h)
  have hy1 : (w.alloc (.cells #[.slice none 0 0, .int .i64 0, .int .i64 0] 47)).cell? ⟨b, o + 1, none⟩ = some (.int .u8 (y.toNat : Int)) := (Mod.refl (fun _ => False) w |>.alloc _).cell hy (fun h => h)
  have hz1 : (w.alloc (.cells #[.slice none 0 0, .int .i64 0, .int .i64 0] 47)).cell? ⟨b, o + 2, none⟩ = some (.int .u8 (z.toNat : Int)) := (Mod.refl (fun _ => False) w |>.alloc _).cell hz (fun h => h)
  clear hx hy hz
  have hx2 : (x.toNat : Int) ≤ 255 := by have := x.toNat_lt; omega
  have hz2 : (z.toNat : Int) ≤ 255 := by have := z.toNat_lt; omega
  have h1 : (1 : Int) < n := by omega
  have h2 : (2 : Int) < n := by omega
  have h0 : 0 < n := by omega
  have y2 : (y.toNat : Int) ≤ 255 := by have := y.toNat_lt; omega
  have e1 : IntKind.i64.wrap (y.toNat : Int) = y.toNat := IntWalk.i64_in _ (by omega)
  have e2 : IntKind.i64.wrap (z.toNat : Int) = z.toNat := IntWalk.i64_in _ (by omega)
  have e3 : IntKind.i64.wrap (x.toNat : Int) = x.toNat := IntWalk.i64_in _ (by omega)
  have e4 : IntKind.i64.wrap ((y.toNat : Int) * 256) = y.toNat * 256 := IntWalk.i64_in _ (by omega)
  have e5 : IntKind.i64.wrap ((y.toNat : Int) * 256 + z.toNat) = y.toNat * 256 + z.toNat := IntWalk.i64_in _ (by omega)
  have e6 : IntKind.i64.wrap ((y.toNat : Int) * 256 + z.toNat + 1) = y.toNat * 256 + z.toNat + 1 := IntWalk.i64_in _ (by omega)
  have e7 : IntKind.i64.wrap ((x.toNat : Int) - 128) = x.toNat - 128 := IntWalk.i64_in _ (by omega)
  have e8 : IntKind.i64.wrap ((x.toNat : Int) - 128 + 4) = x.toNat - 128 + 4 := IntWalk.i64_in _ (by omega)
  go_enter Try.func32, Try.ntmps32
  go_wp2
  refine wp_region_still_tail 18 (by kernel_rfl) (by kernel_rfl) ?_
  change wpStill _ _ (World.drew _) (fun a' => wpList _ _ _ _ a' (World.drew _)) _ _
  simp only [List.take_succ_cons, List.take_zero, List.drop_succ_cons, List.drop_zero]
  repeat still_step
  try refine wpStill_nil ?_
  go_wp2
  refine bodyPost_ret (res_ctt rfl _ _ w.heap.size 47 #[.slice none 0 0, .int .i64 0, .int .i64 0] (0, 0) _ rfl ?_ Try.underlying47 rfl (by kernel_rfl)) rfl ⟨rfl, ?_⟩
  · exact heap_alloc_new w _
  · exact ((Mod.refl _ w).alloc _).drew

/-- A token: its literals, its distance, its length. -/
abbrev Tk := List UInt8 × Nat × Nat
/-- The token at the beginning, its size, the number of the error. -/
def nextE : List UInt8 → Tk × Nat × Nat
  | [] => (([], 0, 0), 0, 28)
  | x :: xs =>
    if x.toNat < 128 then
      if xs.length < x.toNat + 1 then (([], 0, 0), 0, 28) else ((xs.take (x.toNat + 1), 0, 0), x.toNat + 2, 0)
    else match xs with
      | y :: z :: _ => if y.toNat * 256 + z.toNat + 1 ≤ 4096 then (([], y.toNat * 256 + z.toNat + 1, x.toNat - 124), 3, 0) else (([], 0, 0), 0, 2)
      | _ => (([], 0, 0), 0, 28)

theorem next_any (b o n c : Nat) (xs : List UInt8) (w : World) (h : RdB w (some ⟨b, o, none⟩) n c xs) (h0 : 0 < n) (hs : n ≤ 140737488351232) :
    Calls Try.prog 32 #[.slice (some ⟨b, o, none⟩) n c] w fun e w' => ∃ A' c', e = .returned (.tuple #[.agg #[.slice A' (nextE xs).1.1.length c', .int .i64 ((nextE xs).1.2.1 : Nat), .int .i64 ((nextE xs).1.2.2 : Nat)], .int .i64 ((nextE xs).2.1 : Nat), .int .i64 ((nextE xs).2.2 : Nat)]) ∧
      OwnV w' w.heap.size 5 (.slice A' (nextE xs).1.1.length c') (bts (nextE xs).1.1) ∧ New w w' := by
  have hl := h.blen
  rcases xs with _ | ⟨x, xs⟩
  · simp at hl; omega
  have hx := h.byte 0 (by simp)
  simp only [List.getElem_cons_zero, Nat.add_zero] at hx
  simp only [List.length_cons] at hl
  by_cases hlt : x.toNat < 128
  · by_cases hn : xs.length < x.toNat + 1
    · have e : nextE (x :: xs) = (([], 0, 0), 0, 28) := by simp [nextE, hlt, hn]
      rw [e]
      refine (next_short ⟨b, o, none⟩ n c x w hx h0 (by omega) (by omega)).mono ?_
      rintro _ w' ⟨rfl, hw⟩
      exact ⟨none, 0, rfl, OwnV.nil _ _ _, hw⟩
    · have e : nextE (x :: xs) = ((xs.take (x.toNat + 1), 0, 0), x.toNat + 2, 0) := by simp [nextE, hlt, hn]
      rw [e]
      refine (next_lits b o n c x xs w h (by omega) (by omega) hs).mono ?_
      rintro _ w' ⟨A', c', rfl, hown, hw⟩
      have e2 : (xs.take (x.toNat + 1)).length = x.toNat + 1 := by simp; omega
      refine ⟨A', c', ?_, ?_, hw⟩
      · simp only [e2]
        rfl
      · simp only [e2]
        exact hown
  · rcases xs with _ | ⟨y, xs⟩
    · have e : nextE [x] = (([], 0, 0), 0, 28) := by simp [nextE, hlt]
      rw [e]
      refine (next_cut b o n c x w hx h0 (by omega) (by simp at hl; omega)).mono ?_
      rintro _ w' ⟨rfl, hw⟩
      exact ⟨none, 0, rfl, OwnV.nil _ _ _, hw⟩
    rcases xs with _ | ⟨z, xs⟩
    · have e : nextE [x, y] = (([], 0, 0), 0, 28) := by simp [nextE, hlt]
      rw [e]
      refine (next_cut b o n c x w hx h0 (by omega) (by simp at hl; omega)).mono ?_
      rintro _ w' ⟨rfl, hw⟩
      exact ⟨none, 0, rfl, OwnV.nil _ _ _, hw⟩
    have hy := h.byte 1 (by simp)
    have hz := h.byte 2 (by simp)
    simp only [List.getElem_cons_zero, List.getElem_cons_succ] at hy hz
    simp only [List.length_cons] at hl
    by_cases hd : y.toNat * 256 + z.toNat + 1 ≤ 4096
    · have e : nextE (x :: y :: z :: xs) = (([], y.toNat * 256 + z.toNat + 1, x.toNat - 124), 3, 0) := by simp [nextE, hlt, hd]
      rw [e]
      refine (next_match b o n c x y z w hx hy hz (by omega) (by omega) (by omega)).mono ?_
      rintro _ w' ⟨rfl, hw⟩
      refine ⟨none, 0, ?_, OwnV.nil _ _ _, hw⟩
      have e1 : ((x.toNat - 124 : Nat) : Int) = (x.toNat : Int) - 128 + 4 := by omega
      have e2 : ((y.toNat * 256 + z.toNat + 1 : Nat) : Int) = (y.toNat : Int) * 256 + z.toNat + 1 := by omega
      simp only [e1, e2]
      rfl
    · have e : nextE (x :: y :: z :: xs) = (([], 0, 0), 0, 2) := by simp [nextE, hlt, hd]
      rw [e]
      refine (next_far b o n c x y z w hx hy hz (by omega) (by omega) (by omega)).mono ?_
      rintro _ w' ⟨rfl, hw⟩
      exact ⟨none, 0, rfl, OwnV.nil _ _ _, hw⟩
end Go.Proofs.Ytcpiplfajgdohaa
