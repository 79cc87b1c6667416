/- known returns true, and what cut, Pack and Unpack answer. Conditions: those of each theorem. -/
import Derived.Test.YtcpiplfajgdohaaT13
import Derived.Test.YtcpiplfajgdohaaT3
import Derived.Laws.IdiomStrings
import Derived.Laws.BytesArg
import Derived.Lib.SlBytesConst
namespace Go.Proofs.Ytcpiplfajgdohaa
open Go.RowKit Go.Shelf

theorem RdV.takeN {w : World} {A : Option Addr} {n c : Nat} {vs : List Value} (h : RdV w A n c vs) (m : Nat) (hm : m ≤ n) : RdV w A m c (vs.take m) :=
  ⟨by rw [List.length_take, h.len]; omega, Nat.le_trans hm h.cap, fun hp => by
    obtain ⟨b, o, e, hc⟩ := h.cells (by omega)
    refine ⟨b, o, e, fun j u hu => hc j u ?_⟩
    rw [List.getElem?_take] at hu
    split at hu
    · exact hu
    · cases hu⟩

/-- 'string(b)'. -/
theorem run_str (w : World) {A : Option Addr} {n c : Nat} {xs : List UInt8} (h : RdB w A n c xs) : (convert 22 9 (.slice A n c)).run Try.prog w = .ok (.string ⟨xs.toArray⟩) w := by
  have hn := h.blen
  subst hn
  rcases A with _ | a
  · have : xs = [] := by
      rcases xs with _ | ⟨x, xs⟩
      · rfl
      · obtain ⟨b, o, e, _⟩ := h.cells (by simp)
        cases e
    subst this
    exact run_convert_bytes_nil (P := Try.prog) w 22 5 Try.underlying22 Try.underlying5 0 c 9 Try.underlying9
  · refine run_convert_bytes_back (P := Try.prog) w 22 9 5 a c xs Try.underlying22 Try.underlying5 Try.underlying9 (fun j hj => ?_)
    obtain ⟨b, o, e⟩ := h.addr (by omega)
    cases e
    rw [addr_add]
    exact h.byte j hj

set_option maxRecDepth 100000 in
theorem pack_ok (A : Option Addr) (n c : Nat) (b : List UInt8) (w : World) (h : RdB w A n c b) (hn : (n : Int) ≤ 1048576) :
    Calls Try.prog 13 #[.slice A n c] w fun e w' => ∃ A' c', e = .returned (.tuple #[.slice A' (packB [] b).length c', .int .i64 0]) ∧ OwnB w' w.heap.size A' c' (packB [] b) ∧ New w w' := by
  go_enter Try.func13, Try.ntmps13
  go_wp2_with (go_at_call 12; go_must (refine (packWith_ok none 0 0 [] A n c b w (RdV.nil _ _ _) h (by omega) hn).mono ?_; rintro e w1 ⟨A', c', rfl, hown, hnew⟩; have H1 := Lib.hid (And.intro hown hnew); clear hown hnew))
  go_ret2
  exact ⟨A', c', rfl, H1.out⟩

set_option maxRecDepth 100000 in
theorem unpack_ok (A : Option Addr) (n c : Nat) (most : Nat) (ps : List UInt8) (w : World) (hp : RdB w A n c ps) (hm : (most : Int) ≤ 1048576) (hn : n ≤ 140737488351232) :
    Calls Try.prog 18 #[.slice A n c, .int .i64 (most : Int)] w fun e w' => ∃ A' c' n', e = .returned (.tuple #[.slice A' n' c', .int .i64 ((unp most 0 n 0 ps []).2.1 : Nat), .int .i64 ((unp most 0 n 0 ps []).2.2 : Nat)]) ∧
      RdB w' A' n' c' (((unp most 0 n 0 ps []).1).getD []) ∧ (∀ ad, A' = some ad → w.heap.size ≤ ad.block) ∧ New w w' := by
  go_enter Try.func18, Try.ntmps18
  go_wp2_with (go_at_call 17; go_must (refine (unpackWith_ok none 0 0 A n c most [] ps w (RdV.nil _ _ _) hp hm (by omega) hn).mono ?_; rintro e w1 ⟨A', c', n', rfl, hrd, had, hnew⟩; rw [List.drop_zero] at hrd; have H1 := Lib.hid (And.intro hrd (And.intro had hnew)); clear hrd had hnew))
  go_ret3
  exact ⟨A', c', n', rfl, H1.out⟩

attribute [local go_sem] min_run max_run
set_option maxRecDepth 100000 in
/-- cut: at most 400 bytes. -/
theorem cut_any (A : Option Addr) (n c : Nat) (b : List UInt8) (w : World) (h : RdB w A n c b) (hn : n ≤ 9223372036854775807) :
    Calls Try.prog 11 #[.slice A n c] w fun e w' => ∃ n' c', e = .returned (.slice A n' c') ∧ RdB w A n' c' (b.take 400) ∧ n' = min n 400 ∧ w = w' := by
  obtain ⟨m, hm⟩ : ∃ m, m = min n 400 := ⟨_, rfl⟩
  have hif : (if (400 : Int) < (n : Int) then 400 else (n : Int)) = (m : Int) := by split <;> omega
  have hmn : (m : Int) ≤ n := by omega
  have hmc : m ≤ c := by have := h.cap; omega
  have Hm := Lib.hid hm
  clear hm
  have H := Lib.hid h
  clear h
  go_enter Try.func11, Try.ntmps11
  go_wp2
  go_ret
  refine ⟨m, c, rfl, ?_, Hm.out, rfl⟩
  have h1 := RdV.takeN H.out m (by omega)
  rw [show (bts b).take m = bts (b.take 400) from ?e] at h1
  exact h1
  case e =>
    have hl := H.out.blen
    rw [Hm.out, bts, bts, List.map_take]
    rcases Nat.le_total n 400 with hle | hle
    · rw [Nat.min_eq_left hle, List.take_of_length_le (by simp; omega), List.take_of_length_le (by simp; omega)]
    · rw [Nat.min_eq_right hle]

def kA : List UInt8 := [97, 98, 99, 100]
def kB : List UInt8 := [97, 98, 97, 98, 97, 98, 97, 98]
theorem pk_kA : packB [] kA = [3, 97, 98, 99, 100] := by kernel_rfl
theorem pk_kB : packB [] kB = [1, 97, 98, 130, 0, 1] := by kernel_rfl
theorem unp_k : unp 100 0 3 0 [128, 0, 0] [] = (none, 0, 2) := by kernel_rfl

theorem rd_lit (w : World) (xs : List UInt8) (fr : Nat × Nat) : RdB (w.alloc (.cells (bts xs).toArray 5 fr)) (some ⟨w.heap.size, 0, none⟩) xs.length xs.length xs :=
  ⟨bts_length xs, Nat.le_refl _, fun _ => ⟨_, _, rfl, fun j u hu => by
    have h0 : (w.alloc (.cells (bts xs).toArray 5 fr)).heap[w.heap.size]? = some (.cells (bts xs).toArray 5 fr) := heap_alloc_new w _
    rw [cell_of_row _ _ _ _ _ _ h0, Nat.zero_add]
    simpa using hu⟩⟩

theorem pack_kA (w w0 : World) (h : RdB w (some ⟨w0.heap.size, 0, none⟩) 4 4 kA) : Calls Try.prog 13 #[.slice (some ⟨w0.heap.size, 0, none⟩) 4 4] w fun e w' => ∃ A' c', e = .returned (.tuple #[.slice A' 5 c', .int .i64 0]) ∧ RdB w' A' 5 c' [3, 97, 98, 99, 100] ∧ New w w' := by
  refine (pack_ok _ 4 4 kA w h (by decide)).mono ?_
  rintro e w1 ⟨A', c', rfl, hown, hnew⟩
  rw [pk_kA] at hown ⊢
  exact ⟨A', c', rfl, OwnB.rd hown, hnew⟩
theorem pack_kB (w w0 : World) (h : RdB w (some ⟨w0.heap.size, 0, none⟩) 8 8 kB) : Calls Try.prog 13 #[.slice (some ⟨w0.heap.size, 0, none⟩) 8 8] w fun e w' => ∃ A' c', e = .returned (.tuple #[.slice A' 6 c', .int .i64 0]) ∧ RdB w' A' 6 c' [1, 97, 98, 130, 0, 1] ∧ New w w' := by
  refine (pack_ok _ 8 8 kB w h (by decide)).mono ?_
  rintro e w1 ⟨A', c', rfl, hown, hnew⟩
  rw [pk_kB] at hown ⊢
  exact ⟨A', c', rfl, OwnB.rd hown, hnew⟩
theorem unpack_k (w w0 : World) (h : RdB w (some ⟨w0.heap.size, 0, none⟩) 3 3 [128, 0, 0]) : Calls Try.prog 18 #[.slice (some ⟨w0.heap.size, 0, none⟩) 3 3, .int .i64 100] w fun e w' => ∃ A' c' n', e = .returned (.tuple #[.slice A' n' c', .int .i64 0, .int .i64 2]) ∧ New w w' := by
  refine (unpack_ok _ 3 3 100 [128, 0, 0] w h (by decide) (by decide)).mono ?_
  rintro e w1 ⟨A', c', n', rfl, hrd, had, hnew⟩
  rw [unp_k]
  exact ⟨A', c', n', rfl, hnew⟩

set_option maxRecDepth 100000 in
set_option maxHeartbeats 1000000 in
theorem known_ok (w : World) : Calls Try.prog 14 #[] w fun e w' => e = .returned (.bool true) ∧ New w w' := by
  have hcv := fun w C n c => Go.Lib.run_convert_bytes_const (P := Try.prog) w 22 5 C n c Try.underlying22 Try.underlying5
  go_enter Try.func14, Try.ntmps14
  go_wp2_with (first
    | (go_at_call 13; refine (pack_kA _ w (rd_lit _ kA _)).mono ?_; rintro e w1 ⟨A1, c1, rfl, hr1, hn1⟩; have H1 := Lib.hid (And.intro hr1 (((Mod.refl (fun _ => False) w).alloc _).trans hn1 (fun _ _ h => h))); clear hr1 hn1)
    | (go_at_call 13; refine (pack_kB _ w1 (rd_lit _ kB _)).mono ?_; rintro e w2 ⟨A2, c2, rfl, hr2, hn2⟩; have H2 := Lib.hid (And.intro hr2 (((Mod.refl (fun _ => False) w1).alloc _).trans hn2 (fun _ _ h => h))); clear hr2 hn2)
    | (go_at_call 18; refine (unpack_k _ w2 (rd_lit _ [128, 0, 0] _)).mono ?_; rintro e w3 ⟨A3, c3, n3, rfl, hn3⟩; have hn23 := ((Mod.refl (fun _ => False) w2).alloc _).trans hn3 (fun _ _ h => h); have hs1 := run_str w3 ((H1.out.1.new H2.out.2).new hn23); have hs2 := run_str w3 (H2.out.1.new hn23); have H3 := Lib.hid hn23; clear hn3 hn23))
  go_ret
  exact ⟨rfl, (H1.out.2.trans H2.out.2 (fun _ _ h => h)).trans H3.out (fun _ _ h => h)⟩
end Go.Proofs.Ytcpiplfajgdohaa
