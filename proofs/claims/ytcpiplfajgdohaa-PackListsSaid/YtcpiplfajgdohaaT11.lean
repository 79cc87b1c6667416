/- Backward yields the places from the last to the first. Conditions: those of each theorem. -/
import Derived.Test.YtcpiplfajgdohaaT7
import Derived.Test.YtcpiplfajgdohaaT10
namespace Go.Proofs.Ytcpiplfajgdohaa
open Go.RowKit Go.Shelf

attribute [local go_sem] Oper.semAt_some min_run max_run

set_option maxRecDepth 100000 in
set_option maxHeartbeats 400000 in
theorem back_any (A : Option Addr) (n c : Nat) (w : World) :
    Calls Try.prog 36 #[.slice A n c] w fun e w' => e = .returned (.func (.func 39) #[] #[.pointer (some ⟨w.heap.size, 0, none⟩)]) ∧
      w.alloc (.cells #[.slice A n c] 77) = w' := by
  go_enter Try.func36, Try.ntmps36
  go_wp2
  go_ret
  exact ⟨rfl, rfl⟩

/-- The indices from the last on, the first j. -/
def bks (L j : Nat) : List Nat := (List.range j).map (L - 1 - ·)
theorem bks_succ (L j : Nat) : bks L (j + 1) = bks L j ++ [L - 1 - j] := by simp [bks, List.range_succ]
theorem bks_length (L j : Nat) : (bks L j).length = j := by simp [bks]

theorem RdV.of_same {w w' : World} {A : Option Addr} {n c : Nat} {vs : List Value} (h : RdV w A n c vs) (hs : ∀ ad, A = some ad → w'.heap[ad.block]? = w.heap[ad.block]?) : RdV w' A n c vs :=
  ⟨h.len, h.cap, fun hn => by
    obtain ⟨b, o, e, hc⟩ := h.cells hn
    exact ⟨b, o, e, fun j u hu => (World.cell?_of_block (show w'.heap[b]? = w.heap[b]? from hs _ e)).trans (hc j u hu)⟩⟩

set_option maxRecDepth 100000 in
set_option maxHeartbeats 1000000 in
theorem back1_in (l Bs : Nat) (A : Option Addr) (L c : Nat) (ps : List Nat) (hL : (L : Int) ≤ 100000000) (enc : Nat → Array Value)
    (henc : ∀ i, i < L → enc i = #[.int .i64 (i : Int), .int .i64 (ps.getD i 0 : Nat)]) (J Jx : List Nat → World → Prop)
    (hY : ∀ pre x W, J pre W → pre.length < L → x < L → YieldAt Fence.wide 7 Try.prog l (enc x) W fun e W' =>
      (e = .returned (.bool true) ∧ J (pre ++ [x]) W' ∧ (W'.heap[Bs]? = W.heap[Bs]? ∧ ∀ k, At A k → W'.heap[k]? = W.heap[k]?)) ∨ (e = .returned (.bool false) ∧ Jx (pre ++ [x]) W'))
    (W : World) (hBs : Blk W Bs 77 #[.slice A L c]) (hrd : RdV W A L c (ints ps)) (h0 : J [] W) :
    CallsIn Fence.wide 8 Try.prog 39 #[.func (.yield l) #[] #[], .pointer (some ⟨Bs, 0, none⟩)] W fun e W' => (∃ v, e = .returned v) ∧
      ((∃ ys, ys = bks L L ∧ J ys W') ∨ (∃ pre, (∃ j, j ≤ L ∧ pre = bks L j) ∧ Jx pre W')) := by
  have hcs0 := hBs.cell 0 _ rfl
  have hLc : L ≤ c := hrd.cap
  have hlen : ps.length = L := by have := hrd.len; rwa [ints_length] at this
  refine callsIn_of_wp Try.func39 rfl trivial ?_ rfl
  simp only [Try.ntmps39, List.size_toArray, List.length_cons, List.length_nil, Nat.reduceAdd, Nat.reduceSub, Array.replicate_succ, Array.replicate_zero, List.push_toArray, List.append_toArray, List.nil_append, List.cons_append]
  gi_wp2
  gi_loopw [3] (fun i wr => ∃ j : Nat, j ≤ L ∧ i = .int .i64 ((L : Int) - 1 - j) ∧ Hid (J (bks L j) wr ∧ Blk wr Bs 77 #[.slice A L c] ∧ RdV wr A L c (ints ps)))
    (fun i _ => (intOf i + 1).toNat)
  case atStart => exact ⟨0, Nat.zero_le _, by go_num, h0, hBs, hrd⟩
  case round =>
    obtain ⟨j, hj, rfl, Hj⟩ := hrel
    obtain ⟨hJ, hs, hr⟩ := Hj.out
    have hcs := hs.cell 0 _ rfl
    by_cases hlt : j < L
    · obtain ⟨b, o, rfl⟩ := hr.addr (by omega)
      obtain ⟨x, hx⟩ : ∃ x, x = L - 1 - j := ⟨_, rfl⟩
      have hxi : (L : Int) - 1 - j = (x : Int) := by omega
      have hxL : x < L := by omega
      have hxc : (x : Int) < L := by omega
      obtain ⟨v, hv⟩ : ∃ v, v = ps.getD x 0 := ⟨_, rfl⟩
      have hcx : wr.cell? ⟨b, o + x, none⟩ = some (.int .i64 (v : Nat)) := hr.at_ x _ (by
        rw [hv, ints, List.getElem?_map, List.getElem?_eq_getElem (by omega)]
        simp [List.getD_eq_getElem?_getD, List.getElem?_eq_getElem (show x < ps.length by omega)])
      have henc' := henc x hxL
      rw [← hv] at henc'
      have Henc := Lib.hid henc'
      have Hv := Lib.hid hv
      have Hx := Lib.hid hx
      rw [hxi]
      clear hs hr henc henc' hx hxi hv
      obtain ⟨fn, tmps, assign, body, hy, hR⟩ := hY _ x wr hJ (by rw [bks_length]; exact hlt) hxL
      rw [Henc.out] at hy
      have HR := Lib.hid hR
      clear hR
      gi_wp2
      refine HR.out.mono ?_
      rintro e W3 (⟨rfl, hJ3, hk1, hk2⟩ | ⟨rfl, hJx3⟩)
      · have hs3 : Blk W3 Bs 77 #[.slice (some ⟨b, o, none⟩) L c] := hk1.trans Hj.out.2.1
        have hr3 : RdV W3 (some ⟨b, o, none⟩) L c (ints ps) := Hj.out.2.2.of_same (fun ad e => by cases e; exact hk2 b rfl)
        have H3 := Lib.hid (And.intro hJ3 (And.intro hs3 hr3))
        clear hk1 hk2 hs3 hr3 hJ3
        gi_wp2
        go_roundw
        case rel =>
          have hx := Hx.out
          subst hx
          exact ⟨j + 1, by omega, by go_num, by rw [bks_succ]; exact H3.out⟩
        case measure => simp [intOf]
      · gi_wp2
        refine bodyPost_ret (results_none rfl _ _ _) rfl ?_
        refine ⟨⟨_, rfl⟩, .inr ⟨_, ⟨j + 1, by omega, ?_⟩, hJx3⟩⟩
        rw [bks_succ, Hx.out]
    · have hjj : j = L := by omega
      subst hjj
      gi_wp2
      go_end0
      exact ⟨⟨_, rfl⟩, .inl ⟨_, rfl, hJ⟩⟩
/-- What the iterator over places yields at index x. -/
def encB (ps : List Nat) (x : Nat) : Array Value := #[.int .i64 (x : Int), .int .i64 (ps.getD x 0 : Nat)]

theorem back_stops (Bs : Nat) (A : Option Addr) (L c : Nat) (ps : List Nat) (hL : (L : Int) ≤ 100000000) (w : World) (hBs : Blk w Bs 77 #[.slice A L c]) (hrd : RdV w A L c (ints ps)) (hA : ∀ k, At A k → k < w.heap.size) :
    SeqStopsK Fence.wide 8 Try.prog 39 #[.pointer (some ⟨Bs, 0, none⟩)] (fun x : { x : Nat // x < L } => encB ps x.1) (fun W W' => W'.heap[Bs]? = W.heap[Bs]? ∧ ∀ k, At A k → W'.heap[k]? = W.heap[k]?)
      (fun ys => ys.map (·.1) = bks L L) (fun ys => ∃ j, j ≤ L ∧ ys.map (·.1) = bks L j) L w := fun l J Jx W hW hJ hJx hY h0 => by
  refine (back1_in l Bs A L c ps hL (encB ps) (fun i _ => rfl) (fun pre W => ∃ pre' : List { x : Nat // x < L }, pre'.map (·.1) = pre ∧ J pre' W) (fun pre W => ∃ pre' : List { x : Nat // x < L }, pre'.map (·.1) = pre ∧ Jx pre' W)
    ?_ W ((hW.block Bs hBs.lt).trans hBs) (hrd.of_same (fun ad e => hW.block _ (hA _ (by subst e; rfl)))) ⟨[], rfl, h0⟩).mono ?_
  · rintro _ x W1 ⟨pre', rfl, hp⟩ hlen hx
    obtain ⟨fn, tmps, assign, body, hy, hR⟩ := hY pre' ⟨x, hx⟩ W1 hp (by simpa using hlen)
    refine ⟨fn, tmps, assign, body, hy, hR.mono ?_⟩
    rintro e W' (⟨rfl, h1, h2⟩ | ⟨rfl, h1⟩)
    · exact .inl ⟨rfl, ⟨_, by simp, h1⟩, h2⟩
    · exact .inr ⟨rfl, ⟨_, by simp, h1⟩⟩
  · rintro e W' ⟨he, ⟨ys, rfl, pre', h1, h2⟩ | ⟨pre, ⟨j, hj, rfl⟩, pre', h1, h2⟩⟩
    · exact ⟨he, .inl ⟨pre', h1, h2⟩⟩
    · exact ⟨he, .inr ⟨pre', ⟨j, hj, h1⟩, h2⟩⟩
end Go.Proofs.Ytcpiplfajgdohaa
