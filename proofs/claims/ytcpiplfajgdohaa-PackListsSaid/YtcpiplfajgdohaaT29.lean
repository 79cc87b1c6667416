/- UnpackList. Conditions: those of each theorem. -/
import Derived.Test.YtcpiplfajgdohaaT28
namespace Go.Proofs.Ytcpiplfajgdohaa
open Go.RowKit Go.Shelf

theorem unp_len (most dl : Nat) : ∀ (f at_ : Nat) (rest out r : List UInt8) (a e : Nat), out.length - dl ≤ most → unp most dl f at_ rest out = (some r, a, e) → r.length - dl ≤ most
  | 0, at_, rest, out, r, a, e, h, hu => by
    simp only [unp, Prod.mk.injEq, Option.some.injEq] at hu
    rw [← hu.1]; exact h
  | f + 1, at_, rest, out, r, a, e, h, hu => by
    unfold unp at hu
    split at hu
    · simp only [Prod.mk.injEq, Option.some.injEq] at hu
      rw [← hu.1]; exact h
    · split at hu
      · simp at hu
      · split at hu
        · simp at hu
        · split at hu
          · simp at hu
          · exact unp_len most dl f _ _ _ r a e (by rw [copyM_length, List.length_append]; omega) hu
theorem unp_err (most dl : Nat) : ∀ (f at_ : Nat) (rest out : List UInt8), ((unp most dl f at_ rest out).1 = none ∧ (unp most dl f at_ rest out).2.2 ≠ 0) ∨ (∃ r, (unp most dl f at_ rest out) = (some r, 0, 0))
  | 0, at_, rest, out => .inr ⟨out, rfl⟩
  | f + 1, at_, rest, out => by
    unfold unp
    split
    · exact .inr ⟨out, rfl⟩
    · split
      · rename_i h; exact .inl ⟨rfl, h⟩
      · split
        · exact .inl ⟨rfl, by show (2 : Nat) ≠ 0; decide⟩
        · split
          · exact .inl ⟨rfl, by show (5 : Nat) ≠ 0; decide⟩
          · exact unp_err most dl f _ _ _

/-- What is unpacked; the bytes. -/
def ures (most : Nat) (d p : List UInt8) : Option (List UInt8) × Nat × Nat := unp most d.length p.length 0 p d
def uout (most : Nat) (d p : List UInt8) : List UInt8 := ((ures most d p).1.getD d).drop d.length
def dctOf (most : Nat) (rows : List SR) : Nat → List UInt8
  | 0 => []
  | j + 1 => uout most (dctOf most rows j) (xsOf rows j)
def uerr (most : Nat) (rows : List SR) (j : Nat) : Nat := (ures most (dctOf most rows j) (xsOf rows j)).2.2
theorem uout_len (most : Nat) (d p : List UInt8) : (uout most d p).length ≤ most := by
  unfold uout ures
  rw [List.length_drop]
  rcases unp_err most d.length p.length 0 p d with ⟨h, _⟩ | ⟨r, h⟩
  · rw [h, Option.getD_none]; omega
  · have := unp_len most d.length p.length 0 p d r 0 0 (by omega) h
    rw [h, Option.getD_some]
    exact this
theorem dctOf_len (most : Nat) (rows : List SR) : ∀ j, (dctOf most rows j).length ≤ most
  | 0 => Nat.zero_le _
  | j + 1 => uout_len most _ _

/-- Where there is something to read, nobody else's row is changed. -/
def Off (s : SR) (Ao : Option Addr) : Prop := 0 < s.n → ∀ k, At s.A k → ¬ At Ao k
theorem SR.keep {S : Nat → Prop} {w w' : World} {s : SR} (h : s.rd w) (hm : Mod S w w') (hS : 0 < s.n → ∀ k, At s.A k → ¬ S k) : s.rd w' :=
  ⟨h.len, h.cap, fun hn => by
    obtain ⟨b, o, e, hc⟩ := h.cells hn
    exact ⟨b, o, e, fun j u hu => hm.cell (hc j u hu) (hS hn b (by rw [e]; rfl))⟩⟩
theorem SR.lt {w : World} {s : SR} (h : s.rd w) (hn : 0 < s.n) : ∀ k, At s.A k → k < w.heap.size := by
  intro k hk
  obtain ⟨b, o, e, hc⟩ := h.cells hn
  rw [e] at hk
  simp [At] at hk
  subst hk
  obtain ⟨u, hu⟩ : ∃ u, (bts s.xs)[0]? = some u := ⟨(bts s.xs)[0]'(by rw [h.len]; exact hn), List.getElem?_eq_getElem _⟩
  exact World.block_lt_of_cell? w _ (hc 0 u hu)
theorem Off.grow {w : World} {s : SR} {Ao Ao' : Option Addr} (h : Off s Ao) (hr : s.rd w) {B : Nat} (hB : w.heap.size ≤ B) (hb : ∀ k, At Ao' k → At Ao k ∨ k = B) : Off s Ao' := fun hn k hk hk' => by
  rcases hb k hk' with h1 | h1
  · exact h hn k hk h1
  · have := SR.lt hr hn k hk
    omega

/-- What UnpackList answers. -/
def UlPost (w : World) (most : Nat) (rows : List SR) (n : Nat) (e : Ending) (w' : World) : Prop :=
  (∃ j, j < n ∧ (∀ i, i < j → uerr most rows i = 0) ∧ uerr most rows j ≠ 0 ∧ e = .returned (.tuple #[.slice none 0 0, .int .i64 (j : Int), .int .i64 (uerr most rows j : Nat)]) ∧ New w w') ∨
  ((∀ i, i < n → uerr most rows i = 0) ∧ ∃ (A' : Option Addr) (c' : Nat) (rs : List SR), e = .returned (.tuple #[.slice A' n c', .int .i64 0, .int .i64 0]) ∧ RdV w' A' n c' (rs.map SR.v) ∧ (∀ s ∈ rs, s.rd w') ∧ rs.map SR.xs = (List.range n).map (fun j => dctOf most rows (j + 1)) ∧ New w w')

set_option maxRecDepth 100000 in
set_option maxHeartbeats 1000000 in
theorem unpackList_ok (A : Option Addr) (n c : Nat) (rows : List SR) (most : Nat) (w : World) (h : RdV w A n c (rows.map SR.v)) (hr : ∀ s ∈ rows, s.rd w ∧ s.n ≤ 140737488351232) (hn : (n : Int) ≤ 1000000) (hm : (most : Int) ≤ 1048576) :
    Calls Try.prog 23 #[.slice A n c, .int .i64 (most : Int)] w (UlPost w most rows n) := by
  have hl : rows.length = n := by have := h.len; rwa [List.length_map] at this
  have H := Lib.hid (And.intro h (And.intro hr hl))
  clear h hr hl
  go_enter Try.func23, Try.ntmps23
  go_wp2
  go_loopw [15, 4, 7] (fun i o d wr => ∃ (k : Nat) (Ao : Option Addr) (co : Nat) (rs : List SR) (Ad : Option Addr) (nd cd : Nat), i = .int .i64 (k : Int) ∧ o = .slice Ao k co ∧ d = .slice Ad nd cd ∧ k ≤ n ∧ (nd : Int) ≤ 1048576 ∧
      Hid (OwnL wr w.heap.size Ao co rs ∧ rs.length = k ∧ (∀ s ∈ rs, s.rd wr ∧ Off s Ao) ∧ rs.map SR.xs = (List.range k).map (fun j => dctOf most rows (j + 1)) ∧ ((SR.mk Ad nd cd (dctOf most rows k)).rd wr ∧ Off (SR.mk Ad nd cd (dctOf most rows k)) Ao) ∧ New w wr ∧ (∀ i, i < k → uerr most rows i = 0))) (fun i _ _ _ => n - (intOf i).toNat)
  case atStart => exact ⟨0, none, 0, [], none, 0, 0, rfl, rfl, rfl, by omega, by omega, OwnV.nil _ _ _, rfl, by simp, rfl, ⟨RdV.nil _ _ _, fun h => absurd h (Nat.lt_irrefl 0)⟩, Mod.refl _ _, fun i hi => absurd hi (Nat.not_lt_zero _)⟩
  case round =>
    obtain ⟨k, Ao, co, rs, Ad, nd, cd, rfl, rfl, rfl, hk, hnd, HC⟩ := hrel
    by_cases hlt : (k : Int) < n
    · obtain ⟨s, hs⟩ : ∃ s, rows[k]? = some s := ⟨rows[k]'(by have := H.out.2.2; omega), List.getElem?_eq_getElem _⟩
      obtain ⟨b, o, rfl, -, hnc, hcell⟩ := H.out.1.row hs
      have hN := HC.out.2.2.2.2.2.1
      have hcell2 := hN.cell hcell (fun h => h)
      have hsr := H.out.2.1 s (List.mem_of_getElem? hs)
      have hkc : k < c := by omega
      have hrd := HC.out.2.2.2.2.1.1
      have hdl : (dctOf most rows k).length = nd := hrd.blen
      have hsl : s.xs.length = s.n := hsr.1.blen
      have hpk := unpackWith_ok Ad nd cd s.A s.n s.c most (dctOf most rows k) s.xs wr hrd (hsr.1.new hN) hm hnd hsr.2
      have hu : unp most nd s.n 0 s.xs (dctOf most rows k) = ures most (dctOf most rows k) (xsOf rows k) := by rw [ures, hdl, xsOf_get hs, hsl]
      rw [hu] at hpk
      have hout : ((ures most (dctOf most rows k) (xsOf rows k)).1.getD (dctOf most rows k)).drop nd = dctOf most rows (k + 1) := by rw [dctOf, uout, hdl]
      rw [hout] at hpk
      have herr : (ures most (dctOf most rows k) (xsOf rows k)).2.2 = uerr most rows k := rfl
      rw [herr] at hpk
      obtain ⟨er, her⟩ : ∃ er, uerr most rows k = er := ⟨_, rfl⟩
      obtain ⟨ea, hea⟩ : ∃ ea, (ures most (dctOf most rows k) (xsOf rows k)).2.1 = ea := ⟨_, rfl⟩
      rw [her, hea] at hpk
      have hnl := dctOf_len most rows (k + 1)
      have Hp := Lib.hid (And.intro hpk (And.intro her hnl))
      clear hpk hs hsr hcell hN hrd hdl hsl hu hout herr her hea hnl
      by_cases h0 : er = 0
      · subst h0
        go_wp2_with (first
          | (go_at_call 17; with_reducible (refine Hp.out.1.mono ?_); rintro e w1 ⟨UA, uc, un, rfl, hru, hfr, hnew⟩; have H5 := Lib.hid (And.intro hru (And.intro hfr hnew)); have hun : (un : Int) ≤ 1048576 := (by have h1 := hru.blen; have h2 := Hp.out.2.2; omega); clear hru hfr hnew)
          | (at_builtin; refine wpList_append_l rfl _ _ rfl w.heap.size Ao k co rs rfl HC.out.2.1 (OwnV.new (OwnV.new HC.out.1 H5.out.2.2) ((Mod.refl _ _).alloc _)) w1.heap.size ⟨UA, un, uc, dctOf most rows (k + 1)⟩ rfl (Blk.fresh w1 22 _) ?ha ?hb ?_; (case ha => omega); (case hb => rw [World.size_alloc]; have := HC.out.2.2.2.2.2.1.size; have := H5.out.2.2.size; omega); intro A6 c6 w6 hown hm6 hbk; have H6 := Lib.hid (And.intro hown (And.intro hm6 hbk)); clear hown hm6 hbk))
        have hN1 : New wr (w1.alloc (.cells #[.slice UA un uc] 22)) := H5.out.2.2.alloc _
        have hoffx : Off ⟨UA, un, uc, dctOf most rows (k + 1)⟩ Ao := fun _ i hi ho => by
          have h1 := (OwnV.at_base HC.out.1 i ho).2
          cases UA with
          | none => simp [At] at hi
          | some ad =>
            have h2 := H5.out.2.1 ad rfl
            simp [At] at hi
            omega
        have hxr : (SR.mk UA un uc (dctOf most rows (k + 1))).rd (w1.alloc (.cells #[.slice UA un uc] 22)) := H5.out.1.new ((Mod.refl _ _).alloc _)
        have hx6 : (SR.mk UA un uc (dctOf most rows (k + 1))).rd w6 ∧ Off ⟨UA, un, uc, dctOf most rows (k + 1)⟩ A6 := ⟨SR.keep hxr H6.out.2.1 hoffx, hoffx.grow hxr (Nat.le_refl _) H6.out.2.2⟩
        refine ⟨⟨k + 1, A6, c6, rs ++ [⟨UA, un, uc, dctOf most rows (k + 1)⟩], UA, un, uc, by go_num, rfl, rfl, by omega, by omega, H6.out.1, by rw [List.length_append, HC.out.2.1]; rfl, fun r hr => ?_, ?_, hx6, ?_, fun i hi => ?_⟩, by simp [intOf]; omega⟩
        · rcases List.mem_append.1 hr with hr | hr
          · have h1 := HC.out.2.2.1 r hr
            have h2 : r.rd (w1.alloc (.cells #[.slice UA un uc] 22)) := h1.1.new hN1
            exact ⟨SR.keep h2 H6.out.2.1 h1.2, h1.2.grow h2 (Nat.le_refl _) H6.out.2.2⟩
          · simp only [List.mem_cons, List.not_mem_nil, or_false] at hr
            subst hr
            exact hx6
        · rw [List.map_append, HC.out.2.2.2.1, List.range_succ, List.map_append]
          rfl
        · exact (HC.out.2.2.2.2.2.1.trans hN1 (fun _ _ h => h)).trans H6.out.2.1 (fun i hi hk' => by have := (OwnV.at_base HC.out.1 i hk').1; omega)
        · rcases Nat.lt_or_ge i k with h1 | h1
          · exact HC.out.2.2.2.2.2.2 i h1
          · have : i = k := by omega
            subst this
            exact Hp.out.2.1
      · have h0' : ¬ (er : Int) = 0 := by omega
        go_wp2_with (go_at_call 17; with_reducible (refine Hp.out.1.mono ?_); rintro e w1 ⟨UA, uc, un, rfl, hru, hfr, hnew⟩; have H5 := Lib.hid (HC.out.2.2.2.2.2.1.trans hnew (fun _ _ h => h) : New w w1); clear hru hfr hnew)
        go_ret3
        refine Or.inl ⟨k, by omega, HC.out.2.2.2.2.2.2, by rw [Hp.out.2.1]; exact h0, ?_, H5.out⟩
        rw [Hp.out.2.1]
        rfl
    · have hkn : k = n := by omega
      subst hkn
      go_wp2
      go_ret3
      refine Or.inr ⟨HC.out.2.2.2.2.2.2, Ao, co, rs, rfl, ?_, fun s hs => (HC.out.2.2.1 s hs).1, HC.out.2.2.2.1, HC.out.2.2.2.2.2.1⟩
      have h1 := ownL_rd HC.out.1
      rw [HC.out.2.1] at h1
      exact h1
end Go.Proofs.Ytcpiplfajgdohaa
