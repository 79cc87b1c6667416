/- SpaceFaults: the walk. Conditions: those of each theorem. -/
import Derived.Test.YtkdlmnhkbockhaaF1
import Derived.Laws.BitsAllLaws
namespace Go.Proofs.Ytkdlmnhkbockhaa
open Go.RowKit Go.Maps

set_option maxRecDepth 100000 in
set_option maxHeartbeats 4000000 in
theorem spaceFaults_ok (A0 : Option Addr) (m c : Nat) (l : List Fl) (k q : UInt8) (at_ n : Int) (s : List UInt8) (w : World)
    (h0 : RdL w A0 m c l) (hm : m ≤ 9223372036854775807) (hs : s.length ≤ 9223372036854775807) :
    Calls Try.prog 4 #[.slice A0 m c, .agg #[.int .u8 (k.toNat : Int), .int .u8 (q.toNat : Int), .int .i64 at_, .int .i64 n, .string ⟨s.toArray⟩]] w fun e w' => e = .returned (.bool true) ∧ New w w' := by
  have hsl : (⟨s.toArray⟩ : ByteArray).size = s.length := rfl
  have hmm := @run_makeMap Try.prog
  obtain ⟨z, hz⟩ : ∃ z : Nat, min s.length 200 = z := ⟨_, rfl⟩
  have hzs : (z : Int) ≤ s.length := by omega
  have hmin : ∀ ats ty w, (Builtin.min_ ats ty #[.int .i64 (s.length : Int), .int .i64 200]).run Try.prog w = .ok (.int .i64 (z : Int)) w := fun ats ty w => by
    rw [min_run]
    congr 2
    split <;> omega
  have hex : (⟨s.toArray⟩ : ByteArray).extract 0 z = ⟨(s.take z).toArray⟩ := by
    rw [Go.Lib.Pa.extract_upto]
  obtain ⟨t, ht⟩ : ∃ t, s.take z = t := ⟨_, rfl⟩
  have htl : t.length ≤ 9223372036854775807 := by rw [← ht, List.length_take]; omega
  rw [ht] at hex
  obtain ⟨u, hu⟩ : ∃ u : Nat, IntKind.u32.wrap n = (u : Int) := ⟨(IntKind.u32.wrap n).toNat, by rw [IntKind.wrap_u32']; omega⟩
  obtain ⟨F, nF, hF⟩ : ∃ F n, srcF l = (F, n) := ⟨_, _, rfl⟩
  have HS := Lib.hid (And.intro h0 (And.intro hF htl))
  have hk4 : (k.toNat : Int).tmod 4 = 0 ∨ (k.toNat : Int).tmod 4 = 1 ∨ (k.toNat : Int).tmod 4 = 2 ∨ (k.toNat : Int).tmod 4 = 3 := by
    rw [Int.tmod_eq_emod_of_nonneg (by omega)]
    omega
  clear hF h0 ht htl hz
  go_enter Try.func4, Try.ntmps4
  go_upto_region 1 with fail
  have hBo := Blk.fresh w 44 #[.int .u8 (k.toNat : Int), .int .u8 (q.toNat : Int), .int .i64 at_, .int .i64 n, .string ⟨s.toArray⟩]
  have hno : New w (w.alloc (.cells #[.int .u8 (k.toNat : Int), .int .u8 (q.toNat : Int), .int .i64 at_, .int .i64 n, .string ⟨s.toArray⟩] 44)) := (Mod.refl _ _).alloc _
  obtain ⟨wo, hwo⟩ : ∃ wo, w.alloc (.cells #[.int .u8 (k.toNat : Int), .int .u8 (q.toNat : Int), .int .i64 at_, .int .i64 n, .string ⟨s.toArray⟩] 44) = wo := ⟨_, rfl⟩
  rw [hwo] at hBo hno ⊢
  obtain ⟨O, hO⟩ : ∃ O, w.heap.size = O := ⟨_, rfl⟩
  rw [hO] at hBo ⊢
  have hsrc := fun w1 (hk : New wo w1) => source_ok A0 m c l w1 ((HS.out.1.mod hno).mod hk) hm
  rw [HS.out.2.1] at hsrc
  have HB := Lib.hid (And.intro hBo (And.intro hno hsrc))
  clear hwo hO hBo hno hsrc
  go_upto_region 6 with (first
    | (go_at_call 9; refine (known_ok _).mono ?_; rintro e w1 ⟨rfl, hk1⟩; have K1 := Lib.hid hk1; clear hk1)
    | (go_at_call 10; with_reducible (refine (HB.out.2.2 w1 K1.out).mono ?_); rintro e w2 ⟨rfl, hs1, hs2⟩; have K2 := Lib.hid (And.intro hs1 hs2); clear hs1 hs2)
    | (go_at_call 11; with_reducible (refine (start_ms K1.out K2.out.1 K2.out.2).mono ?_); rintro e w3 ⟨S, x, rfl, hx1, hx2, hx3, hx4⟩; have K3 := Lib.hid (And.intro hx1 (And.intro hx2 (And.intro hx3 hx4))); clear hx1 hx2 hx3 hx4)
    | (go_at_call 14; have hk0 := K3.out.2.2.1; subst hk0; with_reducible (refine (fork_f K3.out.1 K3.out.2.1 K3.out.2.2.2).mono ?_); rintro e w4 ⟨C, rfl, hx1⟩; have K4 := Lib.hid hx1; clear hx1))
  have hB4 := HB.out.1.new K4.out.base
  have o0 := hB4.cell 0 _ rfl
  have o2 := hB4.cell 2 _ rfl
  have o3 := hB4.cell 3 _ rfl
  have o4 := hB4.cell 4 _ rfl
  clear hB4
  rcases hk4 with hk4 | hk4 | hk4 | hk4
  · obtain ⟨r, hc⟩ := K4.out.call (f := 16) (args := #[.pointer (some ⟨x.S, 0, none⟩), .int .i64 at_, .string ⟨t.toArray⟩]) (fun A s => storeP A at_ t s) (fun A s h => store_id A h at_ t) (fun A ps fr log hA h => store_ok hA x.S ps fr log at_ t w4 h HS.out.2.2)
    have HC := Lib.hid hc
    clear hc
    by_cases hr : r = 0
    · subst hr
      go_wp2_with (first
        | (go_at_call 16; with_reducible (refine HC.out.mono ?_); rintro e w5 ⟨rfl, hx⟩; have K5 := Lib.hid hx; clear hx))
      go_ret
      exact ⟨rfl, HB.out.2.1.trans K5.out.base fun _ _ h => h⟩
    · have hrI : ¬ (r : Int) = 0 := by omega
      go_wp2_with (first
        | (go_at_call 16; with_reducible (refine HC.out.mono ?_); rintro e w5 ⟨rfl, hx⟩; have K5 := Lib.hid hx; clear hx)
        | (go_at_call 17; with_reducible (refine (K5.out.equal hr).mono ?_); rintro e w6 ⟨rfl, hx⟩; have K6 := Lib.hid hx; clear hx)
        | (go_at_call 21; with_reducible (refine (K6.out.changes hr).mono ?_); rintro e w7 ⟨Ao, co, rfl, hx⟩; have K7 := Lib.hid hx; clear hx))
      go_ret
      exact ⟨rfl, HB.out.2.1.trans K7.out fun _ _ h => h⟩
  · obtain ⟨r, hc⟩ := K4.out.call (f := 18) (args := #[.pointer (some ⟨x.S, 0, none⟩), .int .i64 at_, .int .u32 (u : Int)]) (fun A s => storeP A at_ (wordB u) s) (fun A s h => store_id A h at_ (wordB u)) (fun A ps fr log hA h => setword_ok hA x.S ps fr log at_ u w4 h)
    have HC := Lib.hid hc
    clear hc
    by_cases hr : r = 0
    · subst hr
      go_wp2_with (first
        | (go_at_call 18; with_reducible (refine HC.out.mono ?_); rintro e w5 ⟨rfl, hx⟩; have K5 := Lib.hid hx; clear hx))
      go_ret
      exact ⟨rfl, HB.out.2.1.trans K5.out.base fun _ _ h => h⟩
    · have hrI : ¬ (r : Int) = 0 := by omega
      go_wp2_with (first
        | (go_at_call 18; with_reducible (refine HC.out.mono ?_); rintro e w5 ⟨rfl, hx⟩; have K5 := Lib.hid hx; clear hx)
        | (go_at_call 17; with_reducible (refine (K5.out.equal hr).mono ?_); rintro e w6 ⟨rfl, hx⟩; have K6 := Lib.hid hx; clear hx)
        | (go_at_call 21; with_reducible (refine (K6.out.changes hr).mono ?_); rintro e w7 ⟨Ao, co, rfl, hx⟩; have K7 := Lib.hid hx; clear hx))
      go_ret
      exact ⟨rfl, HB.out.2.1.trans K7.out fun _ _ h => h⟩
  · obtain ⟨r, hc⟩ := K4.out.call (f := 19) (args := #[.pointer (some ⟨x.S, 0, none⟩), .int .i64 at_, .string ⟨t.toArray⟩]) (fun A s => mapP A at_ t s) (fun A s h => map_id A h at_ t) (fun A ps fr log hA h => map_ok hA x.S ps fr log at_ t w4 h)
    have HC := Lib.hid hc
    clear hc
    by_cases hr : r = 0
    · subst hr
      go_wp2_with (first
        | (go_at_call 19; with_reducible (refine HC.out.mono ?_); rintro e w5 ⟨rfl, hx⟩; have K5 := Lib.hid hx; clear hx))
      go_ret
      exact ⟨rfl, HB.out.2.1.trans K5.out.base fun _ _ h => h⟩
    · have hrI : ¬ (r : Int) = 0 := by omega
      go_wp2_with (first
        | (go_at_call 19; with_reducible (refine HC.out.mono ?_); rintro e w5 ⟨rfl, hx⟩; have K5 := Lib.hid hx; clear hx)
        | (go_at_call 17; with_reducible (refine (K5.out.equal hr).mono ?_); rintro e w6 ⟨rfl, hx⟩; have K6 := Lib.hid hx; clear hx)
        | (go_at_call 21; with_reducible (refine (K6.out.changes hr).mono ?_); rintro e w7 ⟨Ao, co, rfl, hx⟩; have K7 := Lib.hid hx; clear hx))
      go_ret
      exact ⟨rfl, HB.out.2.1.trans K7.out fun _ _ h => h⟩
  · obtain ⟨r, hc⟩ := K4.out.call (f := 20) (args := #[.pointer (some ⟨x.S, 0, none⟩), .int .i64 at_]) (fun A s => unmapP A at_ s) (fun A s h => unmap_id A h at_) (fun A ps fr log hA h => unmap_ok hA x.S ps fr log at_ w4 h)
    have HC := Lib.hid hc
    clear hc
    by_cases hr : r = 0
    · subst hr
      go_wp2_with (first
        | (go_at_call 20; with_reducible (refine HC.out.mono ?_); rintro e w5 ⟨rfl, hx⟩; have K5 := Lib.hid hx; clear hx))
      go_ret
      exact ⟨rfl, HB.out.2.1.trans K5.out.base fun _ _ h => h⟩
    · have hrI : ¬ (r : Int) = 0 := by omega
      go_wp2_with (first
        | (go_at_call 20; with_reducible (refine HC.out.mono ?_); rintro e w5 ⟨rfl, hx⟩; have K5 := Lib.hid hx; clear hx)
        | (go_at_call 17; with_reducible (refine (K5.out.equal hr).mono ?_); rintro e w6 ⟨rfl, hx⟩; have K6 := Lib.hid hx; clear hx)
        | (go_at_call 21; with_reducible (refine (K6.out.changes hr).mono ?_); rintro e w7 ⟨Ao, co, rfl, hx⟩; have K7 := Lib.hid hx; clear hx))
      go_ret
      exact ⟨rfl, HB.out.2.1.trans K7.out fun _ _ h => h⟩
end Go.Proofs.Ytkdlmnhkbockhaa
