/- need, with a source that counts. Conditions: those of each theorem. -/
import Derived.Test.YtkdlmnhkbockhaaM1
import Derived.Test.YtkdlmnhkbockhaaS8
namespace Go.Proofs.Ytkdlmnhkbockhaa
open Go.RowKit Go.Maps

theorem askedP_new {ps : List Pg} {k : Nat} {p p' : Pg} (hk : ps[k]? = some p) (ha : p'.asked = true) (j : Nat) : AskedP (ps.set k p') j ↔ AskedP ps j ∨ j = k := by
  unfold AskedP
  rw [List.getElem?_set]
  by_cases e : k = j
  · subst e
    rw [if_pos rfl, if_pos (List.getElem?_eq_some_iff.1 hk).1]
    simp [ha]
  · rw [if_neg e]
    simp [Ne.symm e]

set_option maxRecDepth 100000 in
set_option maxHeartbeats 1000000 in
theorem need_get (am pm cm : Nat) (F : Int → Option (List UInt8)) (n : Nat) : NeedOk (getA am pm cm F n) := by
  intro w S ps fr log k p h hk
  cases hp : p.known with
  | true =>
    refine (need_known S _ ps fr k p w h.sp hk hp).mono ?_
    rintro e w' ⟨rfl, rfl⟩
    refine ⟨rfl, ps, fr, ?_, ?_, Stp.refl _ _ _ _ _⟩
    · rw [needL, if_pos (show (vp fr p).known = true from hp)]
      exact h
    · rw [needV, if_pos (show (vp fr p).known = true from hp)]
      exact (set_same (vps_get hk)).symm
  | false =>
    have hz := h.unk p (List.mem_of_getElem? hk) hp
    subst hz
    have hk64 := h.sp.lt64 hk
    have hkI : (k : Int) < 64 := by omega
    obtain ⟨hnd, hlg⟩ := h.lg rfl
    have hnk : k ∉ log := fun hh => by
      obtain ⟨q, hq, ha⟩ := (hlg k).1 hh
      rw [hk] at hq
      injection hq with hq
      rw [← hq] at ha
      cases ha
    have hl64 : log.length ≤ 64 := nodup_le 64 hnd fun j hj => by
      obtain ⟨q, hq, _⟩ := (hlg j).1 hj
      exact h.sp.lt64 hq
    have hk1 := set_get (y := ({ Pg.zero with known := true } : Pg)) hk
    have s1 : Sp (w.setCell ⟨S, 1 + k * 5, none⟩ (.bool true)) S _ (ps.set k { Pg.zero with known := true }) fr := h.sp.put0 hk true
    have s2 := s1.put_ hk1 1 { Pg.zero with known := true, asked := true } (.bool true) (by decide) rfl rfl
    rw [List.set_set] at s2
    have c0 := h.sp.get0 hk
    have f0 := h.sp.frozen (1 + k * 5)
    have c1 := s1.get (j := 1) hk1 rfl
    have f1 := s1.frozen (1 + k * 5 + 1)
    have g1 := s1.srcCell
    have g2 := s2.srcCell
    have hm2 : Mod (fun i => i = S) w ((w.setCell ⟨S, 1 + k * 5, none⟩ (.bool true)).setCell ⟨S, 1 + k * 5 + 1, none⟩ (.bool true)) := by refine Mod.setCell (Mod.setCell (Mod.refl _ _) _ _ ?_) _ _ ?_ <;> exact fun _ => rfl
    have j2 : GetJ am pm cm F n ((w.setCell ⟨S, 1 + k * 5, none⟩ (.bool true)).setCell ⟨S, 1 + k * 5 + 1, none⟩ (.bool true)) log := (getA am pm cm F n).stay _ _ _ _ h.j hm2 fun i _ e => by subst e; exact h.far.1
    obtain ⟨w2, hw2⟩ : ∃ w2, (w.setCell ⟨S, 1 + k * 5, none⟩ (.bool true)).setCell ⟨S, 1 + k * 5 + 1, none⟩ (.bool true) = w2 := ⟨_, rfl⟩
    have hget := get_ok (w := (w.setCell ⟨S, 1 + k * 5, none⟩ (.bool true)).setCell ⟨S, 1 + k * 5 + 1, none⟩ (.bool true)) j2 k hk64 hnk hnd hl64
    have hfn : ∀ w : World, (binOp BinOp.eql 81 (.func (.func 12) #[.pointer (some ⟨am, 0, none⟩)] #[]) .nilFunc).run Try.prog w = .ok (.bool false) w := fun _ => by kernel_rfl
    have HG := Lib.hid hget
    have HS := Lib.hid (And.intro s2 (And.intro hm2 j2))
    change World.cell? _ _ = some (.func (.func 12) #[.pointer (some ⟨am, 0, none⟩)] #[]) at g1 g2
    clear hget s1 s2 hk1 hm2 j2 hw2
    have H := Lib.hid (And.intro h (And.intro hk (And.intro hnd (And.intro hlg hnk))))
    clear h hk hnd hlg hnk hl64
    have hfin : ∀ (w' : World) (p' : Pg) (fr' : Nat → List UInt8), Sp w' S (getA am pm cm F n).src (ps.set k p') fr' → Mod (fun i => i = S ∨ i = cm) w w' → GetJ am pm cm F n w' (log ++ [k]) → p'.known = true → p'.asked = true → p'.changed = false → (p'.own = false → p'.copy.isSome = true → p'.copy = Pg.zero.copy ∧ Pg.zero.own = false) → ((p'.copy = none ∧ F k = none ∧ p'.own = false) ∨ ∃ g b, p'.copy = some g ∧ w.heap.size ≤ g ∧ F k = some b ∧ fr' g = padB b ∧ p'.own = true) → (∀ i, i < w.heap.size → fr' i = fr i) →
        ∃ ps' fr', Spi (getA am pm cm F n) w' S ps' fr' (needL (getA am pm cm F n) k (vp fr Pg.zero) log) ∧ vps ps' fr' = (vps ps fr).set k (needV (getA am pm cm F n) k (vp fr Pg.zero)) ∧ Stp (getA am pm cm F n) w w' S ps ps' fr fr' := fun w' p' fr' hsp hm hj h1 h2 h3 h9 h4 h5 => by
      obtain ⟨h, hk, hnd, hlg, hnk⟩ := H.out
      obtain ⟨a, b, c⟩ := h.upd0 hk hsp (hm.mono fun i _ e => e.elim .inl fun e => .inr (.inr (.inr e))) h1 hj (fun _ => ⟨by rw [List.nodup_append]; exact ⟨hnd, by simp, fun x hx y hy => by simp at hy; subst hy; exact fun e => hnk (e ▸ hx)⟩, fun j => by rw [askedP_new hk h2 j, ← hlg j]; simp⟩) h9
        (.inr (h4.elim (fun h => .inl h.1) fun ⟨g, b, h6, h7, _⟩ => .inr ⟨g, h6, h7⟩)) h5
      refine ⟨_, _, a, ?_, c⟩
      rw [b]
      congr 1
      rcases h4 with ⟨h6, h7, h10⟩ | ⟨g, b, h6, _, h7, h8, h10⟩
      · simp [needV, vp, Pg.zero, getA, h7, h6, h1, h2, h3, h10]
      · simp [needV, vp, Pg.zero, getA, h7, h6, h1, h2, h3, h8, h10]
    have hs3 : ∀ w3, Mod (fun i => i = cm) ((w.setCell ⟨S, 1 + k * 5, none⟩ (.bool true)).setCell ⟨S, 1 + k * 5 + 1, none⟩ (.bool true)) w3 → Sp w3 S (getA am pm cm F n).src (ps.set k { Pg.zero with known := true, asked := true }) fr ∧ Mod (fun i => i = S ∨ i = cm) w w3 ∧ w.heap.size ≤ w3.heap.size := fun w3 hm3 => by
      obtain ⟨s2, hm2, j2⟩ := HS.out
      obtain ⟨h, hk, -⟩ := H.out
      have hsz2 := hm3.size
      rw [World.size_setCell, World.size_setCell] at hsz2
      refine ⟨s2.mod hm3 (fun e => h.far.1 (.inr (.inr e))) (fun q hq g hg e => ?_), Mod.trans (T := fun i => i = S ∨ i = cm) (hm2.mono fun i _ e => .inl e) (hm3.mono fun i _ e => .inr e) (fun i _ e => e), hsz2⟩
      rcases mem_set hq with h1 | rfl
      · exact h.far.2 g ⟨q, h1, hg⟩ (.inr (.inr e))
      · cases hg
    have HF := Lib.hid (And.intro hfin hs3)
    clear hfin hs3
    cases hF : F k with
    | none =>
      have e1 : (F k).isSome = false := by rw [hF]; rfl
      have HN := Lib.hid hF
      clear hF
      go_enter Try.func33, Try.ntmps33
      go_wp2_with (first
        | (go_at_call 12; with_reducible (refine HG.out.mono ?_); rintro e w3 ⟨rfl, hj3, hm3, hs3⟩; have H3 := Lib.hid (And.intro hj3 hm3); clear hj3 hm3 hs3))
      go_ret
      obtain ⟨hj3, hm3⟩ := H3.out
      obtain ⟨s3, m3, -⟩ := HF.out.2 _ hm3
      exact ⟨rfl, HF.out.1 _ _ _ s3 m3 hj3 rfl rfl rfl (fun _ h => by cases h) (.inl ⟨rfl, HN.out, rfl⟩) (fun _ _ => rfl)⟩
    | some b =>
      have e1 : (F k).isSome = true := by rw [hF]; rfl
      have e2 : (F k).getD [] = b := by rw [hF]; rfl
      have HN := Lib.hid hF
      rw [e2] at HG
      clear hF
      go_enter Try.func33, Try.ntmps33
      go_wp2_with (first
        | (go_at_call 12; with_reducible (refine HG.out.mono ?_); rintro e w3 ⟨rfl, hj3, hm3, hs3⟩; have H3 := Lib.hid (And.intro hj3 (And.intro hm3 hs3)); clear hj3 hm3 hs3)
        | (go_at_call 36; refine (fill_ok ⟨b.toArray⟩ w3).mono ?_; rintro e w4 ⟨rfl, hb4, hs4, hn4⟩; obtain ⟨s3, m3, z3⟩ := HF.out.2 _ H3.out.2.1; have hk2 := set_get (y := ({ Pg.zero with known := true, asked := true } : Pg)) H.out.2.1; have d3 := (s3.new hn4).get (j := 3) hk2 rfl; have d4 := (s3.new hn4).get (j := 4) hk2 rfl; have q3 := (s3.new hn4).frozen (1 + k * 5 + 3); have q4 := (s3.new hn4).frozen (1 + k * 5 + 4); have H4 := Lib.hid (And.intro s3 (And.intro m3 (And.intro z3 (And.intro hb4 (And.intro hs4 (And.intro hn4 hk2)))))); clear s3 m3 z3 hb4 hs4 hn4 hk2))
      go_ret
      obtain ⟨s3, m3, z3, hb4, hs4, hn4, hk2⟩ := H4.out
      obtain ⟨hj3, hm3, -⟩ := H3.out
      have s4 := (s3.congr (fr' := fun i => if i = w3.heap.size then padB b else fr i) (fun i hi => if_neg (by omega))).new hn4
      have s5 := s4.put hk2 (j := 4) (p' := { Pg.zero with known := true, asked := true, copy := some w3.heap.size }) (v := .pointer (some ⟨w3.heap.size, 0, none⟩)) (by decide) rfl (fun i hi => by
        cases hi
        rw [if_pos rfl]
        exact ⟨hb4.far _ (Nat.ne_of_gt s3.blk.lt) _, padB_length b⟩)
      have hk3 := set_get (y := ({ Pg.zero with known := true, asked := true, copy := some w3.heap.size } : Pg)) hk2
      have s6 := s5.put_ hk3 3 { Pg.zero with known := true, asked := true, copy := some w3.heap.size, own := true } (.bool true) (by decide) rfl rfl
      rw [List.set_set, List.set_set] at s6
      have hj4 : GetJ am pm cm F n w4 (log ++ [k]) := (getA am pm cm F n).stay _ _ _ _ hj3 hn4 (fun _ _ h => h.elim)
      have hj5 := (getA am pm cm F n).stay _ _ _ _ hj4 (show Mod (fun i => i = S) w4 ((w4.setCell ⟨S, 1 + k * 5 + 4, none⟩ (.pointer (some ⟨w3.heap.size, 0, none⟩))).setCell ⟨S, 1 + k * 5 + 3, none⟩ (.bool true)) by refine Mod.setCell (Mod.setCell (Mod.refl _ _) _ _ ?_) _ _ ?_ <;> exact fun _ => rfl) (fun i _ e => by subst e; exact H.out.1.far.1)
      refine ⟨rfl, HF.out.1 _ _ _ s6 ?_ hj5 rfl rfl rfl (fun h => by cases h) (.inr ⟨_, b, rfl, z3, HN.out, if_pos rfl, rfl⟩) (fun i hi => if_neg (by omega))⟩
      refine Mod.setCell (Mod.setCell (m3.trans hn4 fun _ _ h => h.elim) _ _ ?_) _ _ ?_ <;> exact fun _ => .inl rfl
end Go.Proofs.Ytkdlmnhkbockhaa
