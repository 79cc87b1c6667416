/- The reference's Bytes answers the tokens' bytes. Conditions: those of the theorem. -/
import Derived.Test.YtcpiplfajgdohaaT20
namespace Go.Proofs.Ytcpiplfajgdohaa
open Go.RowKit Go.Shelf

/-- A token that Canonical answers: literals, at most 128, or a match. -/
def tkOk (t : Tk3) : Prop := (t.2.2 = 0 ∧ 1 ≤ t.1.length ∧ t.1.length ≤ 128) ∨ (1 ≤ t.2.1 ∧ t.2.1 ≤ 4096 ∧ 4 ≤ t.2.2 ∧ t.2.2 ≤ 131)

theorem RdV.cast_ {w : World} {A : Option Addr} {n m c : Nat} {vs : List Value} (h : RdV w A n c vs) (e : n = m) : RdV w A m c vs := e ▸ h
theorem rd_lenb (w : World) (n : Nat) (h1 : 1 ≤ n) (h2 : n ≤ 128) : RdB (w.alloc (.cells #[.int .u8 ((n : Int) - 1)] 5)) (some ⟨w.heap.size, 0, none⟩) 1 1 [UInt8.ofNat (n - 1)] := by
  have h := rd_one w (UInt8.ofNat (n - 1))
  rw [show ((UInt8.ofNat (n - 1)).toNat : Int) = (n : Int) - 1 from by rw [UInt8.toNat_ofNat']; omega] at h
  exact h

set_option maxRecDepth 100000 in
set_option maxHeartbeats 1000000 in
theorem bytes_ok (base : Nat) (A : Option Addr) (c : Nat) (ts : List PT) (tn : Nat) (w : World) (h : OwnT w base 68 A c ts) (hl : ∀ t ∈ ts, RdB w t.A t.ls.length t.c t.ls) (hok : ∀ t ∈ ts, tkOk t.tk) (hn : ts.length = tn) (htn : (tn : Int) ≤ 1000000) :
    Calls Try.prog 15 #[.slice A tn c] w fun e w' => ∃ A' c', e = .returned (.slice A' (tksB (ts.map PT.tk)).length c') ∧ OwnB w' w.heap.size A' c' (tksB (ts.map PT.tk)) ∧ New w w' := by
  have H := Lib.hid (And.intro h (And.intro hl (And.intro hok hn)))
  clear h hl hok hn
  go_enter Try.func15, Try.ntmps15
  go_wp2
  go_loopw [4, 3] (fun i o wr => ∃ (k : Nat) (Ao : Option Addr) (on co : Nat), i = .int .i64 (k : Int) ∧ o = .slice Ao on co ∧ k ≤ tn ∧ (on : Int) ≤ 129 * (k : Int) ∧ Hid (OwnB wr w.heap.size Ao co (tksB ((ts.take k).map PT.tk)) ∧ (tksB ((ts.take k).map PT.tk)).length = on ∧ New w wr)) (fun i _ _ => tn - (intOf i).toNat)
  case atStart => exact ⟨0, none, 0, 0, rfl, rfl, by omega, by omega, OwnV.nil _ _ _, rfl, Mod.refl _ _⟩
  case round =>
    obtain ⟨k, Ao, on, co, rfl, rfl, hk, hon, HC⟩ := hrel
    by_cases hlt : (k : Int) < tn
    · obtain ⟨t, ht⟩ : ∃ t, ts[k]? = some t := ⟨ts[k]'(by have := H.out.2.2.2; omega), List.getElem?_eq_getElem _⟩
      obtain ⟨g, hA, hcap, hc0⟩ := H.out.1.cell (k := 0) ht (by decide)
      obtain ⟨_, hA1, _, hc1⟩ := H.out.1.cell (k := 1) ht (by decide)
      obtain ⟨_, hA2, _, hc2⟩ := H.out.1.cell (k := 2) ht (by decide)
      rw [hA] at hA1 hA2
      injection hA1 with hA1
      injection hA1 with hA1
      injection hA2 with hA2
      injection hA2 with hA2
      subst hA1 hA2 hA
      have hcc0 := HC.out.2.2.cell hc0 (fun h => h)
      have hcc1 := HC.out.2.2.cell hc1 (fun h => h)
      have hcc2 := HC.out.2.2.cell hc2 (fun h => h)
      have hmem : t ∈ ts := List.mem_of_getElem? ht
      have hok := H.out.2.2.1 t hmem
      have htake : ts.take (k + 1) = ts.take k ++ [t] := by rw [List.take_add_one, ht]; rfl
      have HT := Lib.hid (And.intro ht (And.intro hmem htake))
      rw [H.out.2.2.2] at hcap
      clear hc0 hc1 hc2 ht hmem htake
      rw [Nat.add_zero] at hcc0
      have hon2 : (on : Int) ≤ 129000000 := by omega
      have hsz := HC.out.2.2.size
      have HO := Lib.hid (And.intro HC.out.1 HC.out.2.2)
      by_cases hl0 : 0 < (t.l : Int)
      · obtain ⟨hd1, hd2, hl1, hl2⟩ : 1 ≤ (t.d : Int) ∧ (t.d : Int) ≤ 4096 ∧ 4 ≤ (t.l : Int) ∧ (t.l : Int) ≤ 131 := by
          rcases hok with h | h
          · have := h.1; simp only [PT.tk] at this; omega
          · simp only [PT.tk] at h; omega
        go_wp2_with (at_builtin; go_must (refine append_n rfl _ _ rfl w.heap.size Ao on co _ rfl HC.out.2.1 (OwnV.new HC.out.1 ((Mod.refl _ _).alloc _)) _ 3 3 _ rfl (rd_mat wr t.d t.l hd1 hd2 hl2) ?ha ?hb ?_; (case ha => omega); (case hb => rw [World.size_alloc]; omega); intro A6 c6 w6 hown hm hbk; have H6 := Lib.hid (And.intro hown (And.intro hm hbk)); clear hown hm hbk))
        have hnew : New w w6 := (HO.out.2.trans ((Mod.refl _ _).alloc _) (fun _ _ h => h)).trans H6.out.2.1 (fun i hi hk' => by have := (OwnV.at_base HO.out.1 i hk').1; omega)
        have htk : tksB ((ts.take (k + 1)).map PT.tk) = tksB ((ts.take k).map PT.tk) ++ matB t.d t.l := by
          rw [HT.out.2.2, List.map_append, tksB_append]
          congr 1
          simp only [List.map_cons, List.map_nil, tksB, List.flatMap_cons, List.flatMap_nil, List.append_nil, tkB, PT.tk]
          rw [if_pos (by omega)]
        refine ⟨⟨k + 1, A6, on + 3, c6, by go_num, rfl, by omega, by omega, ?_, ?_, hnew⟩, by simp [intOf]; omega⟩
        · rw [htk]; exact H6.out.1
        · rw [htk, List.length_append, HC.out.2.1]; rfl
      · obtain ⟨hls1, hls2⟩ : 1 ≤ t.ls.length ∧ t.ls.length ≤ 128 := by
          rcases hok with h | h
          · simp only [PT.tk] at h; omega
          · simp only [PT.tk] at h; omega
        have hrd := (H.out.2.1 t HT.out.2.1).new HC.out.2.2
        obtain ⟨ln, hln⟩ : ∃ ln, t.ls.length = ln := ⟨_, rfl⟩
        rw [hln] at hrd hls1 hls2 hcc0
        have hls1' : 1 ≤ (ln : Int) := by omega
        have hls2' : (ln : Int) ≤ 128 := by omega
        have HL := Lib.hid (And.intro hrd hln)
        clear hrd hln
        go_wp2_with (first
          | (at_builtin; refine append_n rfl _ _ rfl w.heap.size Ao on co _ rfl HC.out.2.1 (OwnV.new HC.out.1 ((Mod.refl _ _).alloc _)) _ 1 1 _ rfl (rd_lenb wr ln hls1 hls2) ?ha ?hb ?_; (case ha => omega); (case hb => rw [World.size_alloc]; omega); intro A6 c6 w6 hown hm hbk; have hnew : New w w6 := ((HO.out.2.trans ((Mod.refl _ _).alloc _) (fun _ _ h => h)).trans hm (fun i hi hk' => by have := (OwnV.at_base HO.out.1 i hk').1; omega)); have hcc0' := ((H.out.1.new hnew).cell (k := 0) HT.out.1 (by decide)); have H6 := Lib.hid (And.intro hown (And.intro hnew hcc0')); have hcell : w6.cell? ⟨g, k * 3, none⟩ = some (.slice t.A ln t.c) := (by obtain ⟨g', hg1, _, hg3⟩ := H6.out.2.2; injection hg1 with hg1; injection hg1 with hg1; subst hg1; rw [Nat.add_zero] at hg3; rw [hg3, ← HL.out.2]; rfl); clear hown hm hbk hnew hcc0')
          | (at_builtin; refine append_n rfl _ _ rfl w.heap.size A6 (on + 1) c6 _ rfl (by rw [List.length_append, HC.out.2.1]; rfl) H6.out.1 t.A ln t.c t.ls rfl (((H.out.2.1 t HT.out.2.1).new H6.out.2.1).cast_ HL.out.2) ?ha H6.out.2.1.size ?_; (case ha => omega); intro A7 c7 w7 hown hm hbk; have H7 := Lib.hid (And.intro hown (H6.out.2.1.trans hm (fun i hi hk' => by have := (OwnV.at_base H6.out.1 i hk').1; omega) : New w w7)); clear hown hm hbk))
        have htk : tksB ((ts.take (k + 1)).map PT.tk) = tksB ((ts.take k).map PT.tk) ++ [UInt8.ofNat (ln - 1)] ++ t.ls := by
          rw [HT.out.2.2, List.map_append, tksB_append, List.append_assoc]
          congr 1
          simp only [List.map_cons, List.map_nil, tksB, List.flatMap_cons, List.flatMap_nil, List.append_nil, tkB, PT.tk]
          rw [if_neg (by omega), HL.out.2]
          rfl
        refine ⟨⟨k + 1, A7, on + 1 + ln, c7, by go_num, rfl, by omega, by omega, ?_, ?_, H7.out.2⟩, by simp [intOf]; omega⟩
        · rw [htk]; exact H7.out.1
        · rw [htk, List.length_append, List.length_append, HC.out.2.1, HL.out.2]; rfl
    · have htake : ts.take k = ts := List.take_of_length_le (by have := H.out.2.2.2; omega)
      have HK := Lib.hid htake
      clear htake
      go_wp2
      go_ret
      have h1 := HC.out.1
      have h2 := HC.out.2.1
      rw [HK.out] at h1 h2
      exact ⟨Ao, co, by rw [h2]; rfl, h1, HC.out.2.2⟩
end Go.Proofs.Ytcpiplfajgdohaa
