/- Map. Conditions: those of each theorem. -/
import Derived.Test.YtkdlmnhkbockhaaS7
namespace Go.Proofs.Ytkdlmnhkbockhaa
open Go.RowKit

/-- A state after a page was needed. -/
def needS (A : Ask) (k : Nat) (s : VS) : VS :=
  match s.1[k]? with
  | some v => (s.1.set k (needV A k v), needL A k v s.2)
  | none => s
def thereS (s : VS) (k : Nat) : Bool := match s.1[k]? with | some v => v.there | none => false
/-- What Map answers. -/
def mapP (A : Ask) (page : Int) (bs : List UInt8) (s : VS) : Nat × VS :=
  if page < 0 ∨ 64 ≤ page then (2, s)
  else if 64 < bs.length then (5, s)
  else if thereS (needS A page.toNat s) page.toNat then (13, needS A page.toNat s)
  else (0, match (needS A page.toNat s).1[page.toNat]? with
    | some v => ((needS A page.toNat s).1.set page.toNat { v with there := true, changed := true, own := true, bytes := padB bs }, (needS A page.toNat s).2)
    | none => needS A page.toNat s)

theorem needV_known (A : Ask) (k : Nat) (v : VP) : (needV A k v).known = true := by
  unfold needV
  split
  · assumption
  · split
    · split <;> rfl
    · rfl

set_option maxRecDepth 100000 in
set_option maxHeartbeats 1000000 in
theorem map_ok {A : Ask} (hA : NeedOk A) (S : Nat) (ps : List Pg) (fr : Nat → List UInt8) (log : List Nat) (page : Int) (bs : List UInt8) (w : World) (h : Spi A w S ps fr log) :
    Calls Try.prog 19 #[.pointer (some ⟨S, 0, none⟩), .int .i64 page, .string ⟨bs.toArray⟩] w fun e w' => e = .returned (.int .i64 ((mapP A page bs (vps ps fr, log)).1 : Nat)) ∧ After A w w' S ps fr (mapP A page bs (vps ps fr, log)).2 := by
  have hsl : (⟨bs.toArray⟩ : ByteArray).size = bs.length := rfl
  rw [mapP]
  by_cases hr : page < 0 ∨ 64 ≤ page
  · rw [if_pos hr]
    have HH := Lib.hid h
    clear h
    by_cases h1 : page < 0
    · have hd : decide (page < 0) = true := decide_eq_true h1
      clear hr
      go_enter Try.func19, Try.ntmps19
      go_wp2
      go_ret
      exact ⟨rfl, ps, fr, HH.out, rfl, Stp.refl _ _ _ _ _⟩
    · have hd : decide (page < 0) = false := decide_eq_false h1
      have h2 : 64 ≤ page := by omega
      clear hr
      go_enter Try.func19, Try.ntmps19
      go_wp2
      go_ret
      exact ⟨rfl, ps, fr, HH.out, rfl, Stp.refl _ _ _ _ _⟩
  · rw [if_neg hr]
    have h1 : ¬ page < 0 := by omega
    have hd : decide (page < 0) = false := decide_eq_false h1
    have h2 : ¬ 64 ≤ page := by omega
    clear hr
    by_cases hl : 64 < bs.length
    · rw [if_pos hl]
      have HH := Lib.hid h
      have hl' : ¬ ((bs.length : Int) ≤ 64) := by omega
      clear h hl
      go_enter Try.func19, Try.ntmps19
      go_wp2
      go_ret
      exact ⟨rfl, ps, fr, HH.out, rfl, Stp.refl _ _ _ _ _⟩
    · rw [if_neg hl]
      have hl' : ¬ (64 < (bs.length : Int)) := by omega
      obtain ⟨k, hk⟩ : ∃ k : Nat, page = k := ⟨page.toNat, by omega⟩
      subst hk
      rw [Int.toNat_natCast]
      obtain ⟨p, hp⟩ := h.get (k := k) (by omega)
      have hnk := hA w S ps fr log k p h hp
      have hns : needS A k (vps ps fr, log) = ((vps ps fr).set k (needV A k (vp fr p)), needL A k (vp fr p) log) := by
        unfold needS
        dsimp only
        rw [vps_get hp]
      have hlen := (List.getElem?_eq_some_iff.1 (vps_get (fr := fr) hp)).1
      have hget : ((vps ps fr).set k (needV A k (vp fr p)))[k]? = some (needV A k (vp fr p)) := by rw [List.getElem?_set, if_pos rfl, if_pos hlen]
      rw [hns, thereS]
      dsimp only
      rw [hget]
      dsimp only
      rcases Bool.eq_false_or_eq_true (needV A k (vp fr p)).there with hth | hth
      · rw [if_pos hth]
        have HS := Lib.hid (And.intro hnk (And.intro hp hth))
        clear h hl hnk hp hns hlen hget hth
        go_enter Try.func19, Try.ntmps19
        go_wp2_with (go_at_call 33; with_reducible (refine HS.out.1.mono ?_); rintro e w1 ⟨rfl, ps2, fr2, hsp2, hv2, hst2⟩; obtain ⟨p2, hp2, g, hg, hcell⟩ := after_there hsp2 hv2 HS.out.2.1 HS.out.2.2; have H2 := Lib.hid (And.intro hsp2 (And.intro hv2 hst2)); clear hsp2 hv2 hst2)
        go_ret
        exact ⟨rfl, ps2, fr2, H2.out.1, H2.out.2.1, H2.out.2.2⟩
      · rw [if_neg (by rw [hth]; decide)]
        have HS := Lib.hid (And.intro hnk (And.intro hp hth))
        clear h hl hnk hp hns hlen hget hth
        go_enter Try.func19, Try.ntmps19
        go_wp2_with (first
          | (go_at_call 33; with_reducible (refine HS.out.1.mono ?_); rintro e w1 ⟨rfl, ps2, fr2, hsp2, hv2, hst2⟩; obtain ⟨p2, hp2, hcell⟩ := after_not hsp2 hv2 HS.out.2.1 HS.out.2.2; have H2 := Lib.hid (And.intro hsp2 (And.intro hv2 hst2)); clear hsp2 hv2 hst2)
          | (go_at_call 36; refine (fill_ok ⟨bs.toArray⟩ w1).mono ?_; rintro e w3 ⟨rfl, hb3, hs3, hn3⟩; have c2 := (H2.out.1.sp.new hn3).get (j := 2) hp2 rfl; have c3 := (H2.out.1.sp.new hn3).get (j := 3) hp2 rfl; have c4 := (H2.out.1.sp.new hn3).get (j := 4) hp2 rfl; have f2 := (H2.out.1.sp.new hn3).frozen (1 + k * 5 + 2); have f3 := (H2.out.1.sp.new hn3).frozen (1 + k * 5 + 3); have f4 := (H2.out.1.sp.new hn3).frozen (1 + k * 5 + 4); have H3 := Lib.hid (And.intro hb3 (And.intro hs3 hn3)); clear hb3 hs3 hn3))
        go_ret
        obtain ⟨hb3, hs3, hn3⟩ := H3.out
        obtain ⟨hsp2, hv2, hst2⟩ := H2.out
        have hvp : vp fr2 p2 = needV A k (vp fr p) := by
          obtain ⟨p2', h1', h2'⟩ := after_need hsp2 hv2 HS.out.2.1
          rw [hp2] at h1'
          injection h1' with h1'
          rw [h1', h2']
        have hkn2 : p2.known = true := by
          have := needV_known A k (vp fr p)
          rw [← hvp] at this
          exact this
        have s1 := (hsp2.sp.congr (fr' := fun i => if i = w1.heap.size then padB bs else fr2 i) (fun i hi => if_neg (by omega))).new hn3
        have s2 := s1.put hp2 (j := 4) (p' := { p2 with copy := some w1.heap.size }) (v := .pointer (some ⟨w1.heap.size, 0, none⟩)) (by decide) rfl (fun i hi => by
          cases hi
          rw [if_pos rfl]
          exact ⟨hb3.far _ (Nat.ne_of_gt hsp2.sp.blk.lt) _, padB_length bs⟩)
        have hk2 := set_get (y := { p2 with copy := some w1.heap.size }) hp2
        have s3 := s2.put_ hk2 3 { p2 with copy := some w1.heap.size, own := true } (.bool true) (by decide) rfl rfl
        rw [List.set_set] at s3
        have hk3 := set_get (y := { p2 with copy := some w1.heap.size, own := true }) hp2
        have s4 := s3.put_ hk3 2 { p2 with copy := some w1.heap.size, own := true, changed := true } (.bool true) (by decide) rfl rfl
        rw [List.set_set] at s4
        obtain ⟨a, b, c⟩ := hsp2.upd hp2 s4 (by refine Mod.setCell (Mod.setCell (Mod.setCell (hn3.mono fun _ _ h => h.elim) _ _ ?_) _ _ ?_) _ _ ?_ <;> exact fun _ => rfl) hkn2 rfl (fun h => by cases h) (.inr (.inr ⟨_, rfl, Nat.le_refl _⟩)) (fun i hi => if_neg (by omega))
        refine ⟨rfl, _, _, a, ?_, hst2.trans c⟩
        rw [b, hv2, ← hvp]
        congr 1
        simp [vp]
end Go.Proofs.Ytkdlmnhkbockhaa
