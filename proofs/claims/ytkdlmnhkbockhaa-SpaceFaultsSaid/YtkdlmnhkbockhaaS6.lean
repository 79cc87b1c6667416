/- change. Conditions: those of each theorem. -/
import Derived.Test.YtkdlmnhkbockhaaS5
import Derived.Deep.MidRow
import Derived.Deep.WholeRow
namespace Go.Proofs.Ytkdlmnhkbockhaa
open Go.RowKit

theorem info92 : (Try.prog.info? 92).map (·.size) = some 64 := by kernel_rfl

set_option maxRecDepth 100000 in
set_option maxHeartbeats 400000 in
theorem change_own (S o : Nat) (w : World) (h3 : w.cell? ⟨S, o + 3, none⟩ = some (.bool true)) (u2 : Value) (h2 : w.cell? ⟨S, o + 2, none⟩ = some u2) (hf : ∀ i, w.frozen? ⟨S, i, none⟩ = false) :
    Calls Try.prog 35 #[.pointer (some ⟨S, o, none⟩)] w fun e w' => e = .returned (.tuple #[]) ∧ w' = w.setCell ⟨S, o + 2, none⟩ (.bool true) := by
  have hf2 := hf (o + 2)
  clear hf
  go_enter Try.func35, Try.ntmps35
  go_wp2
  go_end0
  exact ⟨rfl, rfl⟩

set_option maxRecDepth 100000 in
set_option maxHeartbeats 400000 in
theorem change_copy (S o g : Nat) (w : World) (C : Array Value) (B : List UInt8) (hB : B.length = 64) (hS : Blk w S 87 C) (c2 : ∃ u2, C[o + 2]? = some u2) (c3 : C[o + 3]? = some (.bool false)) (c4 : C[o + 4]? = some (.pointer (some ⟨g, 0, none⟩))) (hg : Blk w g 92 (bts B).toArray) :
    Calls Try.prog 35 #[.pointer (some ⟨S, o, none⟩)] w fun e w' => e = .returned (.tuple #[]) ∧ w' = (((w.setCell ⟨S, o + 2, none⟩ (.bool true)).alloc (.cells (bts B).toArray 92)).setCell ⟨S, o + 4, none⟩ (.pointer (some ⟨w.heap.size, 0, none⟩))).setCell ⟨S, o + 3, none⟩ (.bool true) := by
  have hne : g ≠ S := Blk.ne_ hg hS (by decide)
  obtain ⟨u2, h2⟩ := c2
  replace h2 := hS.cell _ _ h2
  have h3 := hS.cell _ _ c3
  have h4 := hS.cell _ _ c4
  have hf2 := hS.frozen (o + 2)
  have hf3 := hS.frozen (o + 3)
  have hf4 := hS.frozen (o + 4)
  have hl : (bts B).length = 64 := by rw [bts_length, hB]
  have hrange : (w.setCell ⟨S, o + 2, none⟩ (.bool true)).rangeAt g 0 (bts B) := fun j v hv => by
    rw [Nat.zero_add]
    exact (hg.far ⟨S, o + 2, none⟩ hne (.bool true)).cell j v (by simpa using hv)
  have hsz : (Try.prog.info? 92).map (·.size) = some (bts B).length := by rw [hl]; exact info92
  have hsc : ∀ Z : Array Value, Z.size = 64 → (storeCells ⟨w.heap.size, 0, none⟩ (bts B)).run Try.prog ((w.setCell ⟨S, o + 2, none⟩ (.bool true)).alloc (.cells Z 92)) = .ok () ((w.setCell ⟨S, o + 2, none⟩ (.bool true)).alloc (.cells (bts B).toArray 92)) := fun Z hZ => by
    have := run_storeCells_new (P := Try.prog) (w.setCell ⟨S, o + 2, none⟩ (.bool true)) 92 Z (bts B).toArray (by rw [List.size_toArray]; exact hsz) (by rw [hZ]; simp [hl]) (all_oneCell_toArray (bts_one B))
    rwa [World.size_setCell] at this
  have hW' := (hS.put (o + 2) (.bool true)).alloc (.cells (bts B).toArray 92)
  obtain ⟨W, hW⟩ : ∃ W, (w.setCell ⟨S, o + 2, none⟩ (.bool true)).alloc (.cells (bts B).toArray 92) = W := ⟨_, rfl⟩
  rw [hW] at hsc hW' ⊢
  have k3 := hW'.cell (o + 3) (.bool false) (by rw [Array.getElem?_setIfInBounds_ne (by omega)]; exact c3)
  have k4 := hW'.cell (o + 4) _ (by rw [Array.getElem?_setIfInBounds_ne (by omega)]; exact c4)
  have f3 := hW'.frozen (o + 3)
  have f4 := hW'.frozen (o + 4)
  have HG := Lib.hid (And.intro hrange (And.intro hsz hsc))
  clear hg hne hB hrange hsz hsc hS hW' hW c3 c4
  go_enter Try.func35, Try.ntmps35
  go_wp2_with (first
    | (refine wpList_load_mid rfl 92 (.tmp 15) rfl g 0 rfl (bts B) _ HG.out.1 Try.underlying92 rfl HG.out.2.1 ?_))
  rw [HG.out.2.2 _ rfl]
  dsimp only [Result.andThen]
  go_wp2
  go_end0
  exact ⟨rfl, rfl⟩

/-- A page's entry changes: its copy stays, or goes, or is a new one. -/
theorem Spi.updS {A : Ask} {w w' : World} {S : Nat} {ps : List Pg} {fr fr' : Nat → List UInt8} {log log' : List Nat} {k : Nat} {p p' : Pg} (h : Spi A w S ps fr log) (hk : ps[k]? = some p) (hsp : Sp w' S A.src (ps.set k p') fr') (hm : Mod (fun i => i = S ∨ A.T i) w w') (hkn : p'.known = true)
    (hJ : A.J w' log') (hlg : A.has = true → log'.Nodup ∧ ∀ j, j ∈ log' ↔ AskedP (ps.set k p') j)
    (hc : (p'.copy = p.copy ∧ (p'.own = true → p.own = true)) ∨ p'.copy = none ∨ ∃ g, p'.copy = some g ∧ w.heap.size ≤ g) (hfr : ∀ i, i < w.heap.size → fr' i = fr i) :
    Spi A w' S (ps.set k p') fr' log' ∧ vps (ps.set k p') fr' = (vps ps fr).set k (vp fr' p') ∧ Stp0 A w w' S ps (ps.set k p') fr fr' := by
  have hmem := List.mem_of_getElem? hk
  have lt : ∀ q ∈ ps, ∀ g, q.copy = some g → g < w.heap.size := fun q hq g hg => (h.sp.frm q hq g hg).1.lt
  have ref : ∀ i, RefF (ps.set k p') i → RefF ps i ∨ w.heap.size ≤ i := fun i ⟨q, hq, hqc⟩ => by
    rcases mem_set hq with h1 | rfl
    · exact .inl ⟨q, h1, hqc⟩
    · rcases hc with ⟨e, _⟩ | e | ⟨g, e, hg⟩
      · exact .inl ⟨p, hmem, by rw [← e]; exact hqc⟩
      · rw [e] at hqc; cases hqc
      · rw [e] at hqc
        injection hqc with e1
        exact .inr (by omega)
  refine ⟨⟨hsp, ?_, fun q hq hu => ?_, ?_, ⟨h.far.1, fun i hi ht => ?_⟩, hlg⟩, ?_, ⟨hm.mono fun i _ e => e.elim .inl fun e => .inr (.inr e), fun i hi => ?_, ref, fun i hi _ => hfr i hi⟩⟩
  · intro i j x y g hi hj hij hx hg
    rw [List.getElem?_set] at hi hj
    split at hi
    · rename_i e1
      subst e1
      rw [if_neg hij] at hj
      split at hi
      · injection hi with hi
        subst hi
        intro hyg
        have hy := lt y (List.mem_of_getElem? hj) g hyg
        rcases hc with ⟨e, eo⟩ | e | ⟨g', e, hg'⟩
        · exact h.excl k j p y g hk hj hij (eo hx) (by rw [← e]; exact hg) hyg
        · rw [e] at hg; cases hg
        · rw [e] at hg
          injection hg with e1
          omega
      · cases hi
    · split at hj
      · rename_i e1
        subst e1
        split at hj
        · injection hj with hj
          subst hj
          intro hyg
          have hy := lt x (List.mem_of_getElem? hi) g hg
          rcases hc with ⟨e, eo⟩ | e | ⟨g', e, hg'⟩
          · exact h.excl i k x p g hi hk hij hx hg (by rw [← e]; exact hyg)
          · rw [e] at hyg; cases hyg
          · rw [e] at hyg
            injection hyg with e1
            omega
        · cases hj
      · exact h.excl i j x y g hi hj hij hx hg
  · rcases mem_set hq with h1 | rfl
    · exact h.unk q h1 hu
    · rw [hkn] at hu; cases hu
  · exact hJ
  · rcases ref i hi with h1 | h1
    · exact h.far.2 i h1 ht
    · have := A.old _ _ h.j i ht
      omega
  · rw [vps, List.map_set, vps]
    congr 1
    refine List.map_congr_left fun q hq => ?_
    unfold vp
    cases hq2 : q.copy with
    | none => rfl
    | some g => simp [hfr g (lt q hq g hq2)]
  · obtain ⟨q, hq, h1, h2⟩ := hi
    rcases mem_set hq with h3 | rfl
    · exact .inl ⟨q, h3, h1, h2⟩
    · rcases hc with ⟨e, eo⟩ | e | ⟨g, e, hg⟩
      · exact .inl ⟨p, hmem, eo h1, by rw [← e]; exact h2⟩
      · rw [e] at h2; cases h2
      · rw [e] at h2
        injection h2 with e1
        exact .inr (by omega)
theorem Spi.upd0 {A : Ask} {w w' : World} {S : Nat} {ps : List Pg} {fr fr' : Nat → List UInt8} {log log' : List Nat} {k : Nat} {p p' : Pg} (h : Spi A w S ps fr log) (hk : ps[k]? = some p) (hsp : Sp w' S A.src (ps.set k p') fr') (hm : Mod (fun i => i = S ∨ A.T i) w w') (hkn : p'.known = true)
    (hJ : A.J w' log') (hlg : A.has = true → log'.Nodup ∧ ∀ j, j ∈ log' ↔ AskedP (ps.set k p') j)
    (hkeep : p'.own = false → p'.copy.isSome = true → p'.copy = p.copy ∧ p.own = false)
    (hc : (p'.copy = p.copy ∧ (p'.own = true → p.own = true)) ∨ p'.copy = none ∨ ∃ g, p'.copy = some g ∧ w.heap.size ≤ g) (hfr : ∀ i, i < w.heap.size → fr' i = fr i) :
    Spi A w' S (ps.set k p') fr' log' ∧ vps (ps.set k p') fr' = (vps ps fr).set k (vp fr' p') ∧ Stp A w w' S ps (ps.set k p') fr fr' := by
  obtain ⟨a, b, c⟩ := h.updS hk hsp hm hkn hJ hlg hc hfr
  exact ⟨a, b, ⟨c, keep_set hk hkeep, List.length_set⟩⟩
theorem Spi.upd {A : Ask} {w w' : World} {S : Nat} {ps : List Pg} {fr fr' : Nat → List UInt8} {log : List Nat} {k : Nat} {p p' : Pg} (h : Spi A w S ps fr log) (hk : ps[k]? = some p) (hsp : Sp w' S A.src (ps.set k p') fr') (hm : Mod (fun i => i = S) w w') (hkn : p'.known = true) (has : p'.asked = p.asked)
    (hkeep : p'.own = false → p'.copy.isSome = true → p'.copy = p.copy ∧ p.own = false)
    (hc : (p'.copy = p.copy ∧ (p'.own = true → p.own = true)) ∨ p'.copy = none ∨ ∃ g, p'.copy = some g ∧ w.heap.size ≤ g) (hfr : ∀ i, i < w.heap.size → fr' i = fr i) :
    Spi A w' S (ps.set k p') fr' log ∧ vps (ps.set k p') fr' = (vps ps fr).set k (vp fr' p') ∧ Stp A w w' S ps (ps.set k p') fr fr' :=
  h.upd0 hk hsp (hm.mono fun _ _ e => .inl e) hkn (A.stay _ _ _ _ h.j hm fun i _ e => by subst e; exact h.far.1) (fun hA => ⟨(h.lg hA).1, fun j => ((h.lg hA).2 j).trans (askedP_set hk has j).symm⟩) hkeep hc hfr
theorem Sp.congr {w : World} {S : Nat} {src : Value} {ps : List Pg} {fr fr' : Nat → List UInt8} (h : Sp w S src ps fr) (hf : ∀ i, i < w.heap.size → fr' i = fr i) : Sp w S src ps fr' :=
  ⟨h.blk, h.len, fun p hp g hg => by have := h.frm p hp g hg; rw [hf g this.1.lt]; exact this⟩
theorem Sp.put_ {w : World} {S : Nat} {src : Value} {ps : List Pg} {fr : Nat → List UInt8} {k : Nat} {p : Pg} (h : Sp w S src ps fr) (hk : ps[k]? = some p) (j : Nat) (p' : Pg) (v : Value) (hj : j < 5) (hs : (pgC p).set j v = pgC p') (hc : p'.copy = p.copy) :
    Sp (w.setCell ⟨S, 1 + k * 5 + j, none⟩ v) S src (ps.set k p') fr :=
  h.put hk hj hs fun g hg => by
    have hm := List.mem_of_getElem? hk
    rw [hc] at hg
    exact ⟨(h.frm p hm g hg).1.far _ (h.ne hm hg) _, (h.frm p hm g hg).2⟩
theorem set_get {α : Type} {l : List α} {k : Nat} {x y : α} (h : l[k]? = some x) : (l.set k y)[k]? = some y := by
  rw [List.getElem?_set, if_pos rfl, if_pos (List.getElem?_eq_some_iff.1 h).1]
/-- A page's copy is its own after change. -/
theorem change_ok (A : Ask) (w : World) (S : Nat) (ps : List Pg) (fr : Nat → List UInt8) (log : List Nat) (k : Nat) (p : Pg) (g : Nat) (h : Spi A w S ps fr log) (hk : ps[k]? = some p) (hg : p.copy = some g) :
    Calls Try.prog 35 #[.pointer (some ⟨S, 1 + k * 5, none⟩)] w fun e w' => e = .returned (.tuple #[]) ∧ ∃ ps' fr' g', Spi A w' S ps' fr' log ∧ ps' = ps.set k { p with changed := true, own := true, copy := some g' } ∧ vps ps' fr' = (vps ps fr).set k { vp fr p with changed := true, own := true } ∧ Stp A w w' S ps ps' fr fr' := by
  have hm := List.mem_of_getElem? hk
  have hkn : p.known = true := by
    cases hp : p.known
    · have := h.unk p hm hp
      rw [this] at hg
      cases hg
    · rfl
  have c3 := h.sp.get (j := 3) hk rfl
  have c2 := h.sp.get (j := 2) hk rfl
  cases ho : p.own
  · rw [ho] at c3
    have hb := h.sp.blk
    have gt : ∀ j u, j < 5 → (pgC p)[j]? = some u → (spC A.src ps).toArray[1 + k * 5 + j]? = some u := fun j u hj hu => by
      rw [List.getElem?_toArray, spC_get A.src hk hj, hu]
    have hgB := h.sp.frm p hm g hg
    refine (change_copy S (1 + k * 5) g w _ (fr g) hgB.2 hb ⟨_, gt 2 _ (by decide) rfl⟩ (by have := gt 3 _ (by decide) rfl; rwa [ho] at this) (by have := gt 4 _ (by decide) rfl; rwa [hg] at this) hgB.1).mono ?_
    rintro e w' ⟨rfl, rfl⟩
    have hnewB : Blk ((w.setCell ⟨S, 1 + k * 5 + 2, none⟩ (.bool true)).alloc (.cells (bts (fr g)).toArray 92)) w.heap.size 92 (bts (fr g)).toArray := by
      have := Blk.fresh (w.setCell ⟨S, 1 + k * 5 + 2, none⟩ (.bool true)) 92 (bts (fr g)).toArray
      rwa [World.size_setCell] at this
    have hnew := hb.lt
    have hfr' : ∀ i, i < (w.setCell ⟨S, 1 + k * 5 + 2, none⟩ (.bool true)).heap.size → (fun i => if i = w.heap.size then fr g else fr i) i = fr i := fun i hi => by
      rw [World.size_setCell] at hi
      exact if_neg (by omega)
    have h1 := h.sp.put_ hk 2 { p with changed := true } (.bool true) (by decide) rfl rfl
    have hk1 := set_get (y := { p with changed := true }) hk
    have h2 := (h1.congr hfr').new ((Mod.refl _ _).alloc (.cells (bts (fr g)).toArray 92))
    have h3 := h2.put hk1 (j := 4) (p' := { p with changed := true, copy := some w.heap.size }) (v := .pointer (some ⟨w.heap.size, 0, none⟩)) (by decide) rfl (fun i hi => by
      cases hi
      refine ⟨?_, by rw [if_pos rfl]; exact hgB.2⟩
      rw [if_pos rfl]
      exact hnewB.far _ (Nat.ne_of_gt hnew) _)
    have hk2 := set_get (y := { p with changed := true, copy := some w.heap.size }) hk1
    have h4 := h3.put_ hk2 3 { p with changed := true, copy := some w.heap.size, own := true } (.bool true) (by decide) rfl rfl
    rw [List.set_set, List.set_set] at h4
    obtain ⟨a, b, c⟩ := h.upd hk h4 (by refine Mod.setCell (Mod.setCell (Mod.alloc (Mod.setCell (Mod.refl _ _) _ _ ?_) _) _ _ ?_) _ _ ?_ <;> exact fun _ => rfl) hkn rfl (fun h => by cases h) (.inr (.inr ⟨_, rfl, Nat.le_refl _⟩)) (fun i hi => if_neg (by omega))
    exact ⟨rfl, _, _, w.heap.size, a, rfl, by rw [b]; simp [vp, hg], c⟩
  · rw [ho] at c3
    refine (change_own S (1 + k * 5) w c3 _ c2 h.sp.frozen).mono ?_
    rintro e w' ⟨rfl, rfl⟩
    have hpe : ({ p with changed := true, own := true, copy := some g } : Pg) = { p with changed := true } := by rw [← hg, ← ho]
    have h1 := h.sp.put_ hk 2 { p with changed := true } (.bool true) (by decide) rfl rfl
    obtain ⟨a, b, c⟩ := h.upd hk h1 (by refine Mod.setCell (Mod.refl _ _) _ _ ?_; exact fun _ => rfl) hkn rfl (fun h _ => ⟨rfl, h⟩) (.inl ⟨rfl, fun h => h⟩) (fun i hi => rfl)
    exact ⟨rfl, _, _, g, a, by rw [hpe], by rw [b]; simp [vp, ho], c⟩
end Go.Proofs.Ytkdlmnhkbockhaa
