/- Chunk yields the chunks of 128 bytes in their order. Conditions: those of each theorem. -/
import Derived.Test.YtcpiplfajgdohaaT5
import Derived.RangeFuncNested
import Derived.RangeFuncBound
import Derived.RangeFuncCalls
import Derived.RangeFuncLeaves
import Derived.RangeFuncBox
import Derived.Shelf.Abstract
import Derived.Shelf.RegionOpen
import Derived.OwnWalkIn
import Derived.TacticsInMore
import Derived.LoopNIn
import Derived.LoopIn
import Derived.Sort.QuietIn
namespace Go.Proofs.Ytcpiplfajgdohaa
open Go.RowKit Go.Shelf

attribute [local go_sem] Oper.semAt_some min_run max_run

set_option maxRecDepth 100000 in
set_option maxHeartbeats 400000 in
theorem chunk_any (A : Option Addr) (n c : Nat) (w : World) :
    Calls Try.prog 37 #[.slice A n c, .int .i64 128] w fun e w' => e = .returned (.func (.func 40) #[] #[.pointer (some ⟨w.heap.size, 0, none⟩), .pointer (some ⟨w.heap.size + 1, 0, none⟩)]) ∧
      (w.alloc (.cells #[.slice A n c] 22)).alloc (.cells #[.int .i64 128] 3) = w' := by
  go_enter Try.func37, Try.ntmps37
  go_wp2
  go_ret
  exact ⟨rfl, rfl⟩

/-- The begins of the chunks of L bytes, the first j. -/
def cks (j : Nat) : List Nat := (List.range j).map (128 * ·)
theorem cks_succ (j : Nat) : cks (j + 1) = cks j ++ [128 * j] := by simp [cks, List.range_succ]
theorem cks_length (j : Nat) : (cks j).length = j := by simp [cks]

set_option maxRecDepth 100000 in
set_option maxHeartbeats 1000000 in
theorem chunk1_in (l Bs Bn : Nat) (A : Option Addr) (L c : Nat) (hA : 0 < L → ∃ b o, A = some ⟨b, o, none⟩) (hL : (L : Int) ≤ 100000000) (hLc : L ≤ c) (enc : Nat → Array Value)
    (henc : ∀ b o i, A = some ⟨b, o, none⟩ → enc i = #[.slice (some ⟨b, o + i, none⟩) (min 128 (L - i)) (min 128 (L - i))]) (J Jx : List Nat → World → Prop) (hJd : ∀ s W k, J s W → J s (World.drewN W k))
    (hY : ∀ pre x W, J pre W → pre.length < (L + 127) / 128 → x < L → YieldAt Fence.wide 7 Try.prog l (enc x) W fun e W' =>
      (e = .returned (.bool true) ∧ J (pre ++ [x]) W' ∧ (W'.heap[Bs]? = W.heap[Bs]? ∧ W'.heap[Bn]? = W.heap[Bn]?)) ∨ (e = .returned (.bool false) ∧ Jx (pre ++ [x]) W'))
    (W : World) (hBs : Blk W Bs 22 #[.slice A L c]) (hBn : Blk W Bn 3 #[.int .i64 128]) (h0 : J [] W) :
    CallsIn Fence.wide 8 Try.prog 40 #[.func (.yield l) #[] #[], .pointer (some ⟨Bs, 0, none⟩), .pointer (some ⟨Bn, 0, none⟩)] W fun e W' => (∃ v, e = .returned v) ∧
      ((∃ ys, ys = cks ((L + 127) / 128) ∧ J ys W') ∨ (∃ pre, True ∧ Jx pre W')) := by
  refine callsIn_of_wp Try.func40 rfl trivial ?_ rfl
  simp only [Try.ntmps40, List.size_toArray, List.length_cons, List.length_nil, Nat.reduceAdd, Nat.reduceSub, Array.replicate_succ, Array.replicate_zero, List.push_toArray, List.append_toArray, List.nil_append, List.cons_append]
  gi_wp2
  gi_loopw [4] (fun i wr => ∃ j : Nat, j ≤ (L + 127) / 128 ∧ i = .int .i64 ((128 * j : Nat) : Int) ∧ Hid (J (cks j) wr ∧ Blk wr Bs 22 #[.slice A L c] ∧ Blk wr Bn 3 #[.int .i64 128]))
    (fun i _ => L + 128 - (intOf i).toNat)
  case atStart => exact ⟨0, Nat.zero_le _, rfl, h0, hBs, hBn⟩
  case round =>
    obtain ⟨j, hj, rfl, Hj⟩ := hrel
    obtain ⟨hJ, hs, hn⟩ := Hj.out
    have hcs := hs.cell 0 _ rfl
    have hcn := hn.cell 0 _ rfl
    clear hs hn
    by_cases hlt : 128 * j < L
    · obtain ⟨b, o, rfl⟩ := hA (by omega)
      have hjc : 128 * j < c := by omega
      obtain ⟨m, hm⟩ : ∃ m, m = min 128 (L - 128 * j) := ⟨_, rfl⟩
      have hif : (if ((L - 128 * j : Nat) : Int) < 128 then ((L - 128 * j : Nat) : Int) else 128) = (m : Int) := by split <;> omega
      have henc' := henc b o (128 * j) rfl
      rw [← hm] at henc'
      have Henc := Lib.hid henc'
      have hm1 : 0 < m := by omega
      have hm2 : 128 * j + m ≤ L := by omega
      have hm3 : (128 * j + m : Int) ≤ L := by omega
      have hm4 : 128 * j + m ≤ c := by omega
      have hm5 : (m : Int) ≤ 128 := by omega
      have Hm := Lib.hid hm
      clear hA henc henc' hm
      gi_wp2
      gi_quiet (fail)
      obtain ⟨fn, tmps, assign, body, hy, hR⟩ := hY _ (128 * j) (wr.drewN nq) (hJd _ _ _ hJ) (by rw [cks_length]; omega) hlt
      rw [Henc.out] at hy
      have HR := Lib.hid hR
      clear hR
      gi_wp2
      refine HR.out.mono ?_
      rintro e W3 (⟨rfl, hJ3, hk1, hk2⟩ | ⟨rfl, hJx3⟩)
      · have hs3 : Blk W3 Bs 22 #[.slice (some ⟨b, o, none⟩) L c] := hk1.trans Hj.out.2.1
        have hn3 : Blk W3 Bn 3 #[.int .i64 128] := hk2.trans Hj.out.2.2
        have hcn3 := hn3.cell 0 _ rfl
        have H3 := Lib.hid (And.intro hJ3 (And.intro hs3 hn3))
        clear hk1 hk2 hs3 hn3 hJ3
        gi_wp2
        go_roundw
        case rel => exact ⟨j + 1, by omega, by go_num, by rw [cks_succ]; exact H3.out⟩
        case measure => simp [intOf]; omega
      · gi_wp2
        refine bodyPost_ret (results_none rfl _ _ _) rfl ?_
        exact ⟨⟨_, rfl⟩, .inr ⟨_, trivial, hJx3⟩⟩
    · have hjj : j = (L + 127) / 128 := by omega
      have hlt' : (L : Int) ≤ 128 * j := by omega
      gi_wp2
      go_end0
      exact ⟨⟨_, rfl⟩, .inl ⟨_, rfl, by rw [← hjj]; exact hJ⟩⟩
end Go.Proofs.Ytcpiplfajgdohaa
