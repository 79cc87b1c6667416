/- there, Unmap, Has, SetWord. Conditions: those of each theorem. -/
import Derived.Test.YtkdlmnhkbockhaaM3
import Derived.Test.YtkdlmnhkbockhaaN1
namespace Go.Proofs.Ytkdlmnhkbockhaa
open Go.RowKit

theorem needS_eq (A : Ask) (ps : List Pg) (fr : Nat → List UInt8) (log : List Nat) {k : Nat} {p : Pg} (hp : ps[k]? = some p) : needS A k (vps ps fr, log) = ((vps ps fr).set k (needV A k (vp fr p)), needL A k (vp fr p) log) := by
  unfold needS
  dsimp only
  rw [vps_get hp]
theorem thereS_eq (A : Ask) (ps : List Pg) (fr : Nat → List UInt8) (log : List Nat) {k : Nat} {p : Pg} (hp : ps[k]? = some p) : thereS (needS A k (vps ps fr, log)) k = (needV A k (vp fr p)).there := by
  rw [needS_eq A ps fr log hp, thereS]
  dsimp only
  rw [List.getElem?_set, if_pos rfl, if_pos (List.getElem?_eq_some_iff.1 (vps_get (fr := fr) hp)).1]
theorem After.from_new {A : Ask} {w w1 w2 : World} {S : Nat} {ps : List Pg} {fr : Nat → List UInt8} {s : VS} (hn : New w w1) (h : After A w1 w2 S ps fr s) : After A w w2 S ps fr s := by
  obtain ⟨ps', fr', h1, h2, h3⟩ := h
  exact ⟨ps', fr', h1, h2, (Stp.new hn).trans h3⟩

set_option maxRecDepth 100000
set_option maxHeartbeats 1000000
theorem there_bad (S : Nat) (page : Int) (w : World) (hr : page < 0 ∨ 64 ≤ page) :
    Calls Try.prog 37 #[.pointer (some ⟨S, 0, none⟩), .int .i64 page] w fun e w' => e = .returned (.tuple #[.pointer none, .int .i64 2]) ∧ w' = w := by
  by_cases h1 : page < 0
  · have hd : decide (page < 0) = true := decide_eq_true h1
    clear hr
    go_enter Try.func37, Try.ntmps37
    go_wp2
    go_ret2
    exact ⟨rfl, rfl⟩
  · have hd : decide (page < 0) = false := decide_eq_false h1
    have h2 : 64 ≤ page := by omega
    clear hr
    go_enter Try.func37, Try.ntmps37
    go_wp2
    go_ret2
    exact ⟨rfl, rfl⟩
/-- there, of a page that may be: the page is needed; what comes back. -/
theorem there_in {A : Ask} (hA : NeedOk A) (S : Nat) (ps : List Pg) (fr : Nat → List UInt8) (log : List Nat) (k : Nat) (p : Pg) (w : World) (h : Spi A w S ps fr log) (hp : ps[k]? = some p) :
    Calls Try.prog 37 #[.pointer (some ⟨S, 0, none⟩), .int .i64 (k : Int)] w fun e w' =>
      (∃ ps' fr' p', Spi A w' S ps' fr' (needL A k (vp fr p) log) ∧ vps ps' fr' = (vps ps fr).set k (needV A k (vp fr p)) ∧ Stp A w w' S ps ps' fr fr' ∧ ps'[k]? = some p' ∧ vp fr' p' = needV A k (vp fr p)) ∧
      e = .returned (.tuple (if (needV A k (vp fr p)).there = true then #[.pointer (some ⟨S, 1 + k * 5, none⟩), .int .i64 0] else #[.pointer none, .int .i64 8])) := by
  have hk64 := h.sp.lt64 hp
  have hnk := hA w S ps fr log k p h hp
  have h1 : ¬ (k : Int) < 0 := by omega
  have hd : decide ((k : Int) < 0) = false := decide_eq_false h1
  have h2 : ¬ 64 ≤ (k : Int) := by omega
  rcases Bool.eq_false_or_eq_true (needV A k (vp fr p)).there with hth | hth
  · rw [if_pos hth]
    have HS := Lib.hid (And.intro hnk (And.intro hp hth))
    clear h hnk hp hth
    go_enter Try.func37, Try.ntmps37
    go_wp2_with (go_at_call 33; with_reducible (refine HS.out.1.mono ?_); rintro e w1 ⟨rfl, ps2, fr2, hsp2, hv2, hst2⟩; obtain ⟨p2, hp2, g, hg, hcell⟩ := after_there hsp2 hv2 HS.out.2.1 HS.out.2.2; have H2 := Lib.hid (And.intro hsp2 (And.intro hv2 hst2)); clear hsp2 hv2 hst2)
    go_ret2
    obtain ⟨p3, hp3, hv3⟩ := after_need H2.out.1 H2.out.2.1 HS.out.2.1
    exact ⟨⟨ps2, fr2, p3, H2.out.1, H2.out.2.1, H2.out.2.2, hp3, hv3⟩, rfl⟩
  · rw [if_neg (by rw [hth]; decide)]
    have HS := Lib.hid (And.intro hnk (And.intro hp hth))
    clear h hnk hp hth
    go_enter Try.func37, Try.ntmps37
    go_wp2_with (go_at_call 33; with_reducible (refine HS.out.1.mono ?_); rintro e w1 ⟨rfl, ps2, fr2, hsp2, hv2, hst2⟩; obtain ⟨p2, hp2, hcell⟩ := after_not hsp2 hv2 HS.out.2.1 HS.out.2.2; have H2 := Lib.hid (And.intro hsp2 (And.intro hv2 hst2)); clear hsp2 hv2 hst2)
    go_ret2
    obtain ⟨p3, hp3, hv3⟩ := after_need H2.out.1 H2.out.2.1 HS.out.2.1
    exact ⟨⟨ps2, fr2, p3, H2.out.1, H2.out.2.1, H2.out.2.2, hp3, hv3⟩, rfl⟩

/-- What Has answers. -/
def hasP (A : Ask) (page : Int) (s : VS) : Bool × VS :=
  if page < 0 ∨ 64 ≤ page then (false, s) else (thereS (needS A page.toNat s) page.toNat, needS A page.toNat s)
theorem has_ok {A : Ask} (hA : NeedOk A) (S : Nat) (ps : List Pg) (fr : Nat → List UInt8) (log : List Nat) (page : Int) (w : World) (h : Spi A w S ps fr log) :
    Calls Try.prog 31 #[.pointer (some ⟨S, 0, none⟩), .int .i64 page] w fun e w' => e = .returned (.bool (hasP A page (vps ps fr, log)).1) ∧ After A w w' S ps fr (hasP A page (vps ps fr, log)).2 := by
  rw [hasP]
  by_cases hr : page < 0 ∨ 64 ≤ page
  · rw [if_pos hr]
    have ht := there_bad S page w hr
    have HH := Lib.hid (And.intro h ht)
    clear h hr ht
    go_enter Try.func31, Try.ntmps31
    go_wp2_with (go_at_call 37; with_reducible (refine HH.out.2.mono ?_); rintro e w1 ⟨rfl, rfl⟩)
    go_ret
    exact ⟨rfl, ps, fr, HH.out.1, rfl, Stp.refl _ _ _ _ _⟩
  · rw [if_neg hr]
    obtain ⟨k, hk⟩ : ∃ k : Nat, page = k := ⟨page.toNat, by omega⟩
    subst hk
    rw [Int.toNat_natCast]
    obtain ⟨p, hp⟩ := h.get (k := k) (by omega)
    have ht := there_in hA S ps fr log k p w h hp
    rw [thereS_eq A ps fr log hp, needS_eq A ps fr log hp]
    rcases Bool.eq_false_or_eq_true (needV A k (vp fr p)).there with hth | hth
    · rw [hth] at ht ⊢
      rw [if_pos rfl] at ht
      have HH := Lib.hid ht
      clear h hr ht hp hth
      go_enter Try.func31, Try.ntmps31
      go_wp2_with (go_at_call 37; with_reducible (refine HH.out.mono ?_); rintro e w1 ⟨hx, rfl⟩; have H1 := Lib.hid hx; clear hx)
      go_ret
      obtain ⟨ps', fr', p', h1, h2, h3, -⟩ := H1.out
      exact ⟨rfl, ps', fr', h1, h2, h3⟩
    · rw [hth] at ht ⊢
      rw [if_neg (by decide)] at ht
      have HH := Lib.hid ht
      clear h hr ht hp hth
      go_enter Try.func31, Try.ntmps31
      go_wp2_with (go_at_call 37; with_reducible (refine HH.out.mono ?_); rintro e w1 ⟨hx, rfl⟩; have H1 := Lib.hid hx; clear hx)
      go_ret
      obtain ⟨ps', fr', p', h1, h2, h3, -⟩ := H1.out
      exact ⟨rfl, ps', fr', h1, h2, h3⟩

/-- What Unmap answers. -/
def unmapP (A : Ask) (page : Int) (s : VS) : Nat × VS :=
  if page < 0 ∨ 64 ≤ page then (2, s)
  else if thereS (needS A page.toNat s) page.toNat then (0, match (needS A page.toNat s).1[page.toNat]? with
    | some v => ((needS A page.toNat s).1.set page.toNat { v with there := false, changed := true, own := false, bytes := [] }, (needS A page.toNat s).2)
    | none => needS A page.toNat s)
  else (8, needS A page.toNat s)
theorem unmap_ok {A : Ask} (hA : NeedOk A) (S : Nat) (ps : List Pg) (fr : Nat → List UInt8) (log : List Nat) (page : Int) (w : World) (h : Spi A w S ps fr log) :
    Calls Try.prog 20 #[.pointer (some ⟨S, 0, none⟩), .int .i64 page] w fun e w' => e = .returned (.int .i64 ((unmapP A page (vps ps fr, log)).1 : Nat)) ∧ After A w w' S ps fr (unmapP A page (vps ps fr, log)).2 := by
  rw [unmapP]
  by_cases hr : page < 0 ∨ 64 ≤ page
  · rw [if_pos hr]
    have ht := there_bad S page w hr
    have HH := Lib.hid (And.intro h ht)
    clear h hr ht
    go_enter Try.func20, Try.ntmps20
    go_wp2_with (go_at_call 37; with_reducible (refine HH.out.2.mono ?_); rintro e w1 ⟨rfl, rfl⟩)
    go_ret
    exact ⟨rfl, ps, fr, HH.out.1, rfl, Stp.refl _ _ _ _ _⟩
  · rw [if_neg hr]
    obtain ⟨k, hk⟩ : ∃ k : Nat, page = k := ⟨page.toNat, by omega⟩
    subst hk
    rw [Int.toNat_natCast]
    obtain ⟨p, hp⟩ := h.get (k := k) (by omega)
    have ht := there_in hA S ps fr log k p w h hp
    have hget : ((vps ps fr).set k (needV A k (vp fr p)))[k]? = some (needV A k (vp fr p)) := by rw [List.getElem?_set, if_pos rfl, if_pos (List.getElem?_eq_some_iff.1 (vps_get (fr := fr) hp)).1]
    rw [thereS_eq A ps fr log hp, needS_eq A ps fr log hp]
    dsimp only
    rw [hget]
    dsimp only
    rcases Bool.eq_false_or_eq_true (needV A k (vp fr p)).there with hth | hth
    · rw [if_pos hth]
      rw [if_pos hth] at ht
      have HH := Lib.hid (And.intro ht hp)
      clear h hr ht hp hth hget
      go_enter Try.func20, Try.ntmps20
      go_wp2_with (go_at_call 37; with_reducible (refine HH.out.1.mono ?_); rintro e w1 ⟨⟨ps2, fr2, p2, hsp2, hv2, hst2, hp2, hvp⟩, rfl⟩; have c2 := hsp2.sp.get (j := 2) hp2 rfl; have c3 := hsp2.sp.get (j := 3) hp2 rfl; have c4 := hsp2.sp.get (j := 4) hp2 rfl; have f2 := hsp2.sp.frozen (1 + k * 5 + 2); have f3 := hsp2.sp.frozen (1 + k * 5 + 3); have f4 := hsp2.sp.frozen (1 + k * 5 + 4); have H1 := Lib.hid (And.intro hsp2 (And.intro hv2 (And.intro hst2 (And.intro hp2 hvp)))); clear hsp2 hv2 hst2 hp2 hvp)
      go_ret
      obtain ⟨hsp2, hv2, hst2, hp2, hvp⟩ := H1.out
      have hkn2 : p2.known = true := by
        have := needV_known A k (vp fr p)
        rw [← hvp] at this
        exact this
      have s2 := hsp2.sp.put hp2 (j := 4) (p' := { p2 with copy := none }) (v := .pointer none) (by decide) rfl (fun i hi => by cases hi)
      have hk2 := set_get (y := { p2 with copy := none }) hp2
      have s3 := s2.put_ hk2 3 { p2 with copy := none, own := false } (.bool false) (by decide) rfl rfl
      rw [List.set_set] at s3
      have hk3 := set_get (y := { p2 with copy := none, own := false }) hp2
      have s4 := s3.put_ hk3 2 { p2 with copy := none, own := false, changed := true } (.bool true) (by decide) rfl rfl
      rw [List.set_set] at s4
      obtain ⟨a, b, c⟩ := hsp2.upd hp2 s4 (by refine Mod.setCell (Mod.setCell (Mod.setCell (Mod.refl _ _) _ _ ?_) _ _ ?_) _ _ ?_ <;> exact fun _ => rfl) hkn2 rfl (fun _ h => by cases h) (.inr (.inl rfl)) (fun i hi => rfl)
      refine ⟨rfl, _, _, a, ?_, hst2.trans c⟩
      rw [b, hv2, ← hvp]
      congr 1
    · rw [if_neg (by rw [hth]; decide)]
      rw [if_neg (by rw [hth]; decide)] at ht
      have HH := Lib.hid ht
      clear h hr ht hp hth hget
      go_enter Try.func20, Try.ntmps20
      go_wp2_with (go_at_call 37; with_reducible (refine HH.out.mono ?_); rintro e w1 ⟨hx, rfl⟩; have H1 := Lib.hid hx; clear hx)
      go_ret
      obtain ⟨ps', fr', p', h1, h2, h3, -⟩ := H1.out
      exact ⟨rfl, ps', fr', h1, h2, h3⟩

/-- What SetWord answers. -/
theorem setword_ok {A : Ask} (hA : NeedOk A) (S : Nat) (ps : List Pg) (fr : Nat → List UInt8) (log : List Nat) (at_ : Int) (x : Nat) (w : World) (h : Spi A w S ps fr log) :
    Calls Try.prog 18 #[.pointer (some ⟨S, 0, none⟩), .int .i64 at_, .int .u32 (x : Int)] w fun e w' => e = .returned (.int .i64 ((storeP A at_ (wordB x) (vps ps fr, log)).1 : Nat)) ∧ After A w w' S ps fr (storeP A at_ (wordB x) (vps ps fr, log)).2 := by
  have hcv := wordB_run x w
  have hst : ∀ W, New w W → Calls Try.prog 16 #[.pointer (some ⟨S, 0, none⟩), .int .i64 at_, .string ⟨(wordB x).toArray⟩] W fun e w' => e = .returned (.int .i64 ((storeP A at_ (wordB x) (vps ps fr, log)).1 : Nat)) ∧ After A w w' S ps fr (storeP A at_ (wordB x) (vps ps fr, log)).2 := fun W hW => by
    refine (store_ok hA S ps fr log at_ (wordB x) W (h.new hW) (show 4 ≤ 9223372036854775807 by decide)).mono ?_
    rintro e w' ⟨h1, h2⟩
    exact ⟨h1, h2.from_new hW⟩
  have HH := Lib.hid hst
  obtain ⟨B, hB⟩ : ∃ B, wordB x = B := ⟨_, rfl⟩
  rw [hB] at hcv HH ⊢
  obtain ⟨r, hr⟩ : ∃ r, storeP A at_ B (vps ps fr, log) = r := ⟨_, rfl⟩
  rw [hr] at HH ⊢
  clear h hst hB hr
  go_enter Try.func18, Try.ntmps18
  go_wp2_with (first | (go_at_call 16; with_reducible (refine (HH.out _ ?_).mono ?_); exact (Mod.refl _ _).alloc _; rintro e w1 ⟨rfl, h1⟩; have H1 := Lib.hid h1; clear h1))
  go_ret
  exact ⟨rfl, H1.out⟩
end Go.Proofs.Ytkdlmnhkbockhaa
