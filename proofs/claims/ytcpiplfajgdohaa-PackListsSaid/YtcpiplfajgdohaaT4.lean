/- Concat of two rows of bytes is a row of its own with both. Conditions: those of each theorem. -/
import Derived.Test.YtcpiplfajgdohaaT1
import Derived.LoopN
namespace Go.Proofs.Ytcpiplfajgdohaa
open Go.RowKit

theorem run_append_made (w : World) (ty : TypeId) (m : Nat) (h0 : 0 < m) (hm : m ≤ 140737488355328) :
    ∃ c, (Builtin.append_ #[22, 3] ty #[.slice none 0 0, .int .i64 (m : Int)]).run Try.prog w =
      .ok (.slice (some ⟨w.heap.size, 0, none⟩) m c) (w.drew.alloc (.cells (Builtin.zeroCells #[.int .u8 0] m ++ Builtin.zeroCells #[.int .u8 0] (c - m)) 5)) ∧ m ≤ c ∧ c ≤ maxLen := by
  obtain ⟨i, hi, hzz⟩ := Option.map_eq_some_iff.1 info5
  simp only [Prod.mk.injEq] at hzz
  obtain ⟨hz0, hz1, hz2⟩ := hzz
  refine ⟨grownCap w m 0 5, ?_, grownCap_ge w m 0 5, grownCap_le_maxLen w m 0 5 (by simp only [maxLen]; omega)⟩
  have hn : m ≠ 0 := by omega
  have e1 : IntKind.i64.wrap (m : Int) = m := IntWalk.i64_in _ (by omega)
  have e2 : ¬ ((m : Int) < 0) := by omega
  have e3 : ¬ (281474976710656 < (m : Int)) := by omega
  have e5 : ¬ (281474976710656 < Builtin.nextslicecap m 0) := by rw [nextslicecap_zero h0]; omega
  have e6 : ¬ (9223372036854775807 < (m : Int)) := by omega
  have hu3 := Try.underlying3
  simp [Builtin.append_, run_underlying Try.underlying22, run_underlying hu3, sizeOf, typeInfo, zeroValue, hi, hz0, hz1, hz2, Builtin.lenOf, hn, e1, e2, e3, e5, e6, Question.forced, run_firstCells_none, newRow, grownCap, asInt, asIntOf, Value.cells]

set_option maxRecDepth 100000 in
set_option maxHeartbeats 400000 in
theorem grow_pos (m : Nat) (w : World) (h0 : 0 < m) (hm : m ≤ 140737488355328) :
    Calls Try.prog 34 #[.slice none 0 0, .int .i64 (m : Int)] w fun e w' => ∃ A c, e = .returned (.slice A 0 c) ∧ OwnB w' w.heap.size A c [] ∧ New w w' := by
  obtain ⟨c, hr, hc1, hc2⟩ := run_append_made w 22 m h0 hm
  have Hr := Lib.hid hr
  have h0' : (0 : Int) < m := by omega
  have hmb : (m : Int) ≤ 140737488355328 := by omega
  clear hr
  go_enter Try.func34, Try.ntmps34
  go_wp2_with (at_builtin; go_must (refine wpList_append_run w rfl _ _ #[22, 3] rfl Hr.out ?_))
  go_ret
  refine ⟨_, _, rfl, ?_, ((Mod.refl _ w).alloc _).drew⟩
  have := World.ownsRow_made (base := w.heap.size) (e := 5) (size := 1) w (Builtin.zeroCells #[.int .u8 0] m ++ Builtin.zeroCells #[.int .u8 0] (c - m)) c (Nat.le_refl _) hc2 (by simp [size_zeroCells]; omega)
  exact OwnV.new this ((Mod.refl _ _).drew)

set_option maxRecDepth 100000 in
set_option maxHeartbeats 400000 in
theorem grow_zero (w : World) :
    Calls Try.prog 34 #[.slice none 0 0, .int .i64 0] w fun e w' => ∃ A c, e = .returned (.slice A 0 c) ∧ OwnB w' w.heap.size A c [] ∧ New w w' := by
  go_enter Try.func34, Try.ntmps34
  go_wp2
  go_ret
  exact ⟨_, _, rfl, OwnV.nil _ _ _, Mod.refl _ _⟩

theorem grow_any (m : Nat) (w : World) (hm : m ≤ 140737488355328) :
    Calls Try.prog 34 #[.slice none 0 0, .int .i64 (m : Int)] w fun e w' => ∃ A c, e = .returned (.slice A 0 c) ∧ OwnB w' w.heap.size A c [] ∧ New w w' := by
  rcases Nat.eq_zero_or_pos m with rfl | h
  · exact grow_zero w
  · exact grow_pos m w h hm

theorem grow_int (m : Int) (w : World) (h0 : 0 ≤ m) (hm : m ≤ 140737488355328) :
    Calls Try.prog 34 #[.slice none 0 0, .int .i64 m] w fun e w' => ∃ A c, e = .returned (.slice A 0 c) ∧ OwnB w' w.heap.size A c [] ∧ New w w' := by
  obtain ⟨n, rfl⟩ := Int.eq_ofNat_of_zero_le h0
  exact grow_any n w (by omega)

set_option maxRecDepth 100000 in
set_option maxHeartbeats 1000000 in
theorem concat_two (g : Nat) (A1 A2 : Option Addr) (n1 c1 n2 c2 : Nat) (xs ys : List UInt8) (w : World) (hb : Blk w g 22 #[.slice A1 n1 c1, .slice A2 n2 c2]) (h1 : RdB w A1 n1 c1 xs) (h2 : RdB w A2 n2 c2 ys)
    (hn1 : (n1 : Int) ≤ 1048576) (hn2 : (n2 : Int) ≤ 1048576) :
    Calls Try.prog 25 #[.slice (some ⟨g, 0, none⟩) 2 2] w fun e w' => ∃ A c, e = .returned (.slice A (n1 + n2) c) ∧ OwnB w' w.heap.size A c (xs ++ ys) ∧ New w w' := by
  have hc0 := hb.cell 0 _ rfl
  have hc1 := hb.cell 1 _ rfl
  have Hb := Lib.hid hb
  have H1 := Lib.hid h1
  have H2 := Lib.hid h2
  clear hb h1 h2
  go_enter Try.func25, Try.ntmps25
  go_wp2
  refine wp_loop_rounds 3 ?_
  rw [rounds_succ]
  go_wp2
  rw [rounds_succ]
  go_wp2
  rw [rounds_succ]
  go_wp2_with (go_at_call 34; go_must (refine (grow_int _ _ (by omega) (by omega)).mono ?_; rintro e w1 ⟨A, c, rfl, hown, hnew⟩; have hd0 := (Hb.out.new hnew).cell 0 _ rfl; have hb1 := (Hb.out.new hnew); have Ho := Lib.hid (And.intro hown hnew); have Hb1 := Lib.hid hb1; clear hown hnew hb1))
  refine wp_loop_rounds 3 ?_
  rw [rounds_succ]
  go_wp2_with (at_builtin; go_must (refine append_b rfl _ _ rfl w.heap.size A c [] rfl Ho.out.1 A1 n1 c1 xs rfl (H1.out.new Ho.out.2) ?ha Ho.out.2.size ?_; (case ha => simp; omega); intro A3 c3 w3 hown hm hb; simp only [List.length_nil, Nat.zero_add, List.nil_append] at hown ⊢; have hd1 := (Hb1.out.mod hm (OwnV.at_ne Ho.out.1 Hb1.out (by decide))).cell 1 _ rfl; have H3 := Lib.hid (And.intro hown (Ho.out.2.trans hm (fun i hi hk => by have := (OwnV.at_base Ho.out.1 i hk).1; omega))); clear hown hm hb))
  rw [rounds_succ]
  go_wp2_with (at_builtin; go_must (refine append_n rfl _ _ rfl w.heap.size A3 n1 c3 xs rfl H1.out.blen H3.out.1 A2 n2 c2 ys rfl (H2.out.new H3.out.2) ?ha H3.out.2.size ?_; (case ha => omega); intro A4 c4 w4 hown hm hb; have H4 := Lib.hid (And.intro hown (H3.out.2.trans hm (fun i hi hk => by have := (OwnV.at_base H3.out.1 i hk).1; omega))); clear hown hm hb))
  rw [rounds_succ]
  go_wp2_with fail
  go_ret
  exact ⟨A4, c4, rfl, H4.out.1, H4.out.2⟩
end Go.Proofs.Ytcpiplfajgdohaa
