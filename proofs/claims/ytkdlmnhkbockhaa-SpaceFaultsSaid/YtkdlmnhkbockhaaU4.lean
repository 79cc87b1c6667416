/- Asked, Page, Changes. Conditions: those of each theorem. -/
import Derived.Test.YtkdlmnhkbockhaaE1
namespace Go.Proofs.Ytkdlmnhkbockhaa
open Go.RowKit

/-- The pages that were asked for. -/
def askL (ps : List Pg) (j : Nat) : List Nat := (List.range j).filter fun k => (ps.getD k Pg.zero).asked
theorem askL_succ {ps : List Pg} {j : Nat} {p : Pg} (hp : ps[j]? = some p) : askL ps (j + 1) = if p.asked then askL ps j ++ [j] else askL ps j := by
  unfold askL
  rw [List.range_succ, List.filter_append]
  simp only [List.filter_cons, List.filter_nil]
  rw [List.getD_eq_getElem?_getD, hp, Option.getD_some]
  split <;> simp
theorem askL_le (ps : List Pg) (j : Nat) : (askL ps j).length ≤ j := by
  unfold askL
  have := List.length_filter_le (fun k => (ps.getD k Pg.zero).asked) (List.range j)
  simpa using this

set_option maxRecDepth 100000 in
set_option maxHeartbeats 1000000 in
theorem asked_ok (S : Nat) (src : Value) (ps : List Pg) (fr : Nat → List UInt8) (w : World) (h : Sp w S src ps fr) :
    Calls Try.prog 23 #[.pointer (some ⟨S, 0, none⟩)] w fun e w' => (∃ Ao c, e = .returned (.slice Ao (askL ps 64).length c) ∧ OwnV w' w.heap.size 3 (.slice Ao (askL ps 64).length c) (ints (askL ps 64))) ∧ New w w' := by
  have H := Lib.hid h
  clear h
  go_enter Try.func23, Try.ntmps23
  go_wp2
  go_loopw [3, 7] (fun o i wr => ∃ j : Nat, i = .int .i64 (j : Int) ∧ j ≤ 64 ∧ ∃ Ao n c, o = .slice Ao n c ∧ Hid ((askL ps j).length = n ∧ OwnV wr w.heap.size 3 (.slice Ao n c) (ints (askL ps j)) ∧ New w wr)) (fun _ i _ => 64 - (intOf i).toNat)
  case atStart => exact ⟨0, rfl, by omega, none, 0, 0, rfl, rfl, OwnV.nil _ _ _, Mod.refl _ _⟩
  case round =>
    obtain ⟨j, rfl, hj, Ao, n, c, rfl, HC⟩ := hrel
    by_cases hlt : (j : Int) < 64
    · obtain ⟨hn, hown, hnew⟩ := HC.out
      obtain ⟨p, hp⟩ : ∃ p, ps[j]? = some p := ⟨_, List.getElem?_eq_getElem (by rw [H.out.len]; omega)⟩
      have c1 := hnew.cell (H.out.get (j := 1) hp rfl) (fun h => h)
      have hs := askL_succ hp
      have hnle : n ≤ 64 := by rw [← hn]; have := askL_le ps j; omega
      have hsz := hnew.size
      cases ha : p.asked with
      | true =>
        rw [ha] at c1
        rw [ha, if_pos rfl] at hs
        have HS := Lib.hid (And.intro hn (And.intro hown (And.intro hnew hs)))
        clear hn hown hnew hs hp ha
        go_wp2_with (first
          | (at_builtin; refine wpList_append_i rfl _ _ rfl w.heap.size Ao n c (askL ps j) rfl HS.out.1 (OwnV.new HS.out.2.1 ((Mod.refl _ _).alloc _)) wr.heap.size j rfl (Blk.fresh _ _ _) (by omega) (Nat.le_trans hsz ((Mod.refl (fun _ => False) _).alloc _).size) ?_; intro A3 c3 w3 hown3 hm3 hk3; have H3 := Lib.hid (And.intro hown3 (And.intro hm3 hk3)); clear hown3 hm3 hk3))
        refine ⟨⟨j + 1, by go_num, by omega, A3, n + 1, c3, rfl, ?_, ?_, ?_⟩, by simp [intOf]; omega⟩
        · rw [HS.out.2.2.2, List.length_append, HS.out.1]; rfl
        · rw [HS.out.2.2.2]; exact H3.out.1
        · exact (HS.out.2.2.1.alloc _).trans H3.out.2.1 (fun i hi hd => by have := (OwnV.at_base HS.out.2.1 i hd).1; omega)
      | false =>
        rw [ha] at c1
        rw [ha, if_neg (by decide)] at hs
        have HS := Lib.hid (And.intro hn (And.intro hown (And.intro hnew hs)))
        clear hn hown hnew hs hp ha
        go_wp2
        refine ⟨⟨j + 1, by go_num, by omega, Ao, n, c, rfl, ?_, ?_, HS.out.2.2.1⟩, by simp [intOf]; omega⟩
        · rw [HS.out.2.2.2]; exact HS.out.1
        · rw [HS.out.2.2.2]; exact HS.out.2.1
    · have hj : j = 64 := by omega
      subst hj
      go_wp2
      go_ret
      obtain ⟨hn, hown, hnew⟩ := HC.out
      subst hn
      exact ⟨⟨Ao, c, rfl, hown⟩, hnew⟩

/-- A copy's bytes as a string. -/
theorem run_str92 {w : World} {g : Nat} {xs : List UInt8} (h : Blk w g 92 (bts xs).toArray) (hn : xs.length = 64) : (convert 23 9 (.slice (some ⟨g, 0, none⟩) 64 64)).run Try.prog w = .ok (.string ⟨xs.toArray⟩) w := by
  rw [← hn]
  refine run_convert_bytes_back (P := Try.prog) w 23 9 5 ⟨g, 0, none⟩ xs.length xs Try.underlying23 Try.underlying5 Try.underlying9 (fun j hj => ?_)
  rw [addr_add, Nat.zero_add]
  refine h.cell j _ ?_
  rw [bts_arr xs j hj, List.getD_eq_getElem?_getD, List.getElem?_eq_getElem hj]
  rfl

theorem vp_there (fr : Nat → List UInt8) (p : Pg) : (vp fr p).there = p.copy.isSome := rfl
/-- What Page answers. -/
def pageP (A : Ask) (page : Int) (s : VS) : (List UInt8 × Nat) × VS :=
  if page < 0 ∨ 64 ≤ page then (([], 2), s)
  else if thereS (needS A page.toNat s) page.toNat then (((match (needS A page.toNat s).1[page.toNat]? with | some v => v.bytes | none => []), 0), needS A page.toNat s)
  else (([], 8), needS A page.toNat s)
set_option maxRecDepth 100000 in
set_option maxHeartbeats 1000000 in
theorem page_ok {A : Ask} (hA : NeedOk A) (S : Nat) (ps : List Pg) (fr : Nat → List UInt8) (log : List Nat) (page : Int) (w : World) (h : Spi A w S ps fr log) :
    Calls Try.prog 25 #[.pointer (some ⟨S, 0, none⟩), .int .i64 page] w fun e w' => e = .returned (.tuple #[.string ⟨(pageP A page (vps ps fr, log)).1.1.toArray⟩, .int .i64 ((pageP A page (vps ps fr, log)).1.2 : Nat)]) ∧ After A w w' S ps fr (pageP A page (vps ps fr, log)).2 := by
  rw [pageP]
  by_cases hr : page < 0 ∨ 64 ≤ page
  · rw [if_pos hr]
    have ht := there_bad S page w hr
    have HH := Lib.hid (And.intro h ht)
    clear h hr ht
    go_enter Try.func25, Try.ntmps25
    go_wp2_with (go_at_call 37; with_reducible (refine HH.out.2.mono ?_); rintro e w1 ⟨rfl, rfl⟩)
    go_ret2
    exact ⟨rfl, ps, fr, HH.out.1, rfl, Stp.refl _ _ _ _ _⟩
  · rw [if_neg hr]
    obtain ⟨k, hk⟩ : ∃ k : Nat, page = k := ⟨page.toNat, by omega⟩
    subst hk
    rw [Int.toNat_natCast]
    obtain ⟨p, hp⟩ := h.get (k := k) (by omega)
    have ht := there_in hA S ps fr log k p w h hp
    have hget : ((vps ps fr).set k (needV A k (vp fr p)))[k]? = some (needV A k (vp fr p)) := by rw [List.getElem?_set, if_pos rfl, if_pos (List.getElem?_eq_some_iff.1 (vps_get (fr := fr) hp)).1]
    rw [thereS_eq A ps fr log hp, needS_eq A ps fr log hp]
    dsimp only
    rw [hget]
    dsimp only
    rcases Bool.eq_false_or_eq_true (needV A k (vp fr p)).there with hth | hth
    · rw [if_pos hth]
      rw [if_pos hth] at ht
      have hsl := fun (w : World) (g : Nat) (xs : List UInt8) (h : Blk w g 92 (bts xs).toArray) (hn : xs.length = 64) => run_str92 h hn
      have HH := Lib.hid (And.intro ht (And.intro hp hth))
      clear h hr ht hp hth hget
      go_enter Try.func25, Try.ntmps25
      go_wp2_with (go_at_call 37; with_reducible (refine HH.out.1.mono ?_); rintro e w1 ⟨⟨ps2, fr2, p2, hsp2, hv2, hst2, hp2, hvp⟩, rfl⟩; obtain ⟨v, hv⟩ : ∃ v, needV A k (vp fr p) = v := ⟨_, rfl⟩; have hth2 := HH.out.2.2; rw [hv] at hvp hth2; obtain ⟨g, hg⟩ : ∃ g, p2.copy = some g := (by rw [← hvp, vp_there] at hth2; exact Option.isSome_iff_exists.1 hth2); have c4 := hsp2.sp.get (j := 4) hp2 rfl; rw [hg] at c4; dsimp only [ptr, Option.map] at c4; have hG := hsp2.sp.frm p2 (List.mem_of_getElem? hp2) g hg; have hstr := run_str92 hG.1 hG.2; have hby : v.bytes = fr2 g := (by rw [← hvp]; simp [vp, hg]); rw [← hby] at hstr; have H1 := Lib.hid (And.intro hsp2 (And.intro hv2 (And.intro hst2 hv))); clear hsp2 hv2 hst2 hp2 hvp hth2 hG hby hg hv)
      go_ret2
      obtain ⟨hsp2, hv2, hst2, hv⟩ := H1.out
      rw [hv]
      exact ⟨rfl, ps2, fr2, hsp2, by rw [hv2, hv], hst2⟩
    · rw [if_neg (by rw [hth]; decide)]
      rw [if_neg (by rw [hth]; decide)] at ht
      have HH := Lib.hid ht
      clear h hr ht hp hth hget
      go_enter Try.func25, Try.ntmps25
      go_wp2_with (go_at_call 37; with_reducible (refine HH.out.mono ?_); rintro e w1 ⟨hx, rfl⟩; have H1 := Lib.hid hx; clear hx)
      go_ret2
      obtain ⟨ps', fr', p', h1, h2, h3, -⟩ := H1.out
      exact ⟨rfl, ps', fr', h1, h2, h3⟩
end Go.Proofs.Ytkdlmnhkbockhaa
