/- A space and its child, some of whose pages were stored to. Conditions: those of each theorem. -/
import Derived.Test.YtkdlmnhkbockhaaE2
namespace Go.Proofs.Ytkdlmnhkbockhaa
open Go.RowKit Go.Maps

/-- The pages' state after Fork. -/
theorem forkN_get (A : Ask) (s : VS) : ∀ j k, (forkN A j s).1[k]? = if k < j then (s.1[k]?).map (fun v => { needV A k v with own := false }) else s.1[k]?
  | 0, k => by rw [if_neg (by omega)]; rfl
  | j + 1, k => by
    have hj := forkN_get A s j j
    rw [if_neg (by omega)] at hj
    have hk := forkN_get A s j k
    unfold forkN
    unfold clr needS
    cases hv : s.1[j]? with
    | none =>
      rw [hv] at hj
      rw [hj]
      dsimp only
      rw [hj]
      dsimp only
      rw [hk]
      by_cases e : k < j
      · rw [if_pos e, if_pos (by omega)]
      · rw [if_neg e]
        by_cases e2 : k = j
        · subst e2; rw [if_pos (by omega), hv]; rfl
        · rw [if_neg (by omega)]
    | some v =>
      rw [hv] at hj
      have hlt := (List.getElem?_eq_some_iff.1 hj).1
      rw [hj]
      dsimp only
      rw [List.getElem?_set, if_pos rfl, if_pos hlt]
      dsimp only
      rw [List.set_set, List.getElem?_set]
      by_cases e2 : j = k
      · subst e2
        rw [if_pos rfl, if_pos hlt, if_pos (by omega), hv]
        rfl
      · rw [if_neg e2, hk]
        by_cases e : k < j
        · rw [if_pos e, if_pos (by omega)]
        · rw [if_neg e, if_neg (by omega)]

/-- Every page is known, and is as the source tells. -/
def Wd (A : Ask) (vs : List VP) : Prop := ∀ k, k < 64 → ∃ v, vs[k]? = some v ∧ v.known = true ∧ v.there = (A.ct k).isSome ∧ v.bytes = (A.ct k).getD []
structure Sh (A : Ask) (x y : Spc) (T : List Nat) : Prop where
  s : Wd A x.st.1
  c : Wd A y.st.1
  own : ∀ (k : Nat) p q, k < 64 → x.ps[k]? = some p → y.ps[k]? = some q → ((p.own || q.own) = true ↔ k ∈ T)
  link : ∀ (k : Nat) p q, k < 64 → x.ps[k]? = some p → y.ps[k]? = some q → p.own = false → q.own = false → p.copy = q.copy
  nd : T.Nodup
  th : ∀ k ∈ T, k < 64 ∧ (A.ct k).isSome = true
theorem Sh.symm {A : Ask} {x y : Spc} {T : List Nat} (h : Sh A x y T) : Sh A y x T :=
  ⟨h.c, h.s, fun k p q hk hp hq => by rw [Bool.or_comm]; exact h.own k q p hk hq hp, fun k p q hk hp hq ho hc => (h.link k q p hk hq hp hc ho).symm, h.nd, h.th⟩
def addT (T : List Nat) (p : Nat) : List Nat := if p ∈ T then T else p :: T
theorem mem_addT {T : List Nat} {p k : Nat} : k ∈ addT T p ↔ k = p ∨ k ∈ T := by
  unfold addT
  split
  · rename_i h
    refine ⟨.inr, fun e => e.elim (fun e => e ▸ h) id⟩
  · rw [List.mem_cons]
theorem Wd.at_ {A : Ask} {x : Spc} (h : Wd A x.st.1) {k : Nat} (hk : k < 64) : ∃ p, x.ps[k]? = some p ∧ p.known = true ∧ p.copy.isSome = (A.ct k).isSome ∧ (vp x.fr p).bytes = (A.ct k).getD [] := by
  obtain ⟨v, hv, h1, h2, h3⟩ := h k hk
  change (vps x.ps x.fr)[k]? = some v at hv
  rw [vps, List.getElem?_map] at hv
  cases hp : x.ps[k]? with
  | none => rw [hp] at hv; cases hv
  | some p =>
    rw [hp] at hv
    cases hv
    exact ⟨p, rfl, h1, h2, h3⟩
/-- A page is stored to. -/
theorem Sh.step {A : Ask} {x x' y : Spc} {T : List Nat} {p : Nat} {v : VP} (h : Sh A x y T) (hp : p < 64) (ht : (A.ct p).isSome = true) (hv : x.st.1[p]? = some v)
    (hst : x'.st.1 = x.st.1.set p { v with changed := true, own := true })
    (hl : x'.ps.length = x.ps.length)
    (keep : ∀ (k : Nat) (p p' : Pg), x.ps[k]? = some p → x'.ps[k]? = some p' → p'.own = false → p'.copy.isSome = true → p'.copy = p.copy ∧ p.own = false) : Sh A x' y (addT T p) := by
  have hWd : Wd A x'.st.1 := fun k hk => by
    rw [hst]
    obtain ⟨u, hu, h1, h2, h3⟩ := h.s k hk
    rw [List.getElem?_set]
    by_cases e : p = k
    · subst e
      rw [hv] at hu
      cases hu
      rw [if_pos rfl, if_pos (List.getElem?_eq_some_iff.1 hv).1]
      exact ⟨_, rfl, h1, h2, h3⟩
    · rw [if_neg e]
      exact ⟨u, hu, h1, h2, h3⟩
  have hownp : ∀ (k : Nat) p1, x'.ps[k]? = some p1 → ∃ p0, x.ps[k]? = some p0 ∧ p1.own = if k = p then true else p0.own := fun k p1 hp1 => by
    have hk := (List.getElem?_eq_some_iff.1 hp1).1
    rw [hl] at hk
    refine ⟨_, List.getElem?_eq_getElem hk, ?_⟩
    have h0 := vps_get (fr := x.fr) (List.getElem?_eq_getElem hk)
    have h1 := vps_get (fr := x'.fr) hp1
    change x'.st.1[k]? = _ at h1
    change x.st.1[k]? = _ at h0
    rw [hst, List.getElem?_set] at h1
    by_cases e : p = k
    · subst e
      rw [if_pos rfl, if_pos (List.getElem?_eq_some_iff.1 hv).1] at h1
      rw [if_pos rfl]
      have := congrArg VP.own (Option.some.inj h1)
      exact this.symm
    · rw [if_neg e, h0] at h1
      rw [if_neg (Ne.symm e)]
      have := congrArg VP.own (Option.some.inj h1)
      exact this.symm
  refine ⟨hWd, h.c, fun k p1 q hk hp1 hq => ?_, fun k p1 q hk hp1 hq ho hc => ?_, ?_, fun k hk => ?_⟩
  · obtain ⟨p0, hp0, ho⟩ := hownp k p1 hp1
    rw [ho, mem_addT]
    by_cases e : k = p
    · simp [e]
    · rw [if_neg e, h.own k p0 q hk hp0 hq]
      simp [e]
  · obtain ⟨p0, hp0, ho0⟩ := hownp k p1 hp1
    obtain ⟨p2, hp2, -, h2, -⟩ := hWd.at_ hk
    obtain ⟨q2, hq2, -, h3, -⟩ := h.c.at_ hk
    rw [hp1] at hp2
    cases hp2
    rw [hq] at hq2
    cases hq2
    cases hc1 : p1.copy with
    | none =>
      rw [hc1, ← h3] at h2
      cases hc2 : q.copy with
      | none => rfl
      | some g => rw [hc2] at h2; cases h2
    | some g =>
      obtain ⟨h5, h6⟩ := keep k p0 p1 hp0 hp1 ho (by rw [hc1]; rfl)
      rw [← hc1, h5]
      exact h.link k p0 q hk hp0 hq h6 hc
  · unfold addT
    split
    · exact h.nd
    · rename_i hn
      exact List.nodup_cons.2 ⟨hn, h.nd⟩
  · rcases mem_addT.1 hk with rfl | hk
    · exact ⟨hp, ht⟩
    · exact h.th k hk
/-- How many pages there are; how many are not stored to. -/
def thN (A : Ask) : Nat := (List.range 64).countP fun k => (A.ct k).isSome
def shN (A : Ask) (T : List Nat) : Nat := (List.range 64).countP fun k => (A.ct k).isSome && !decide (k ∈ T)
theorem shN_add (A : Ask) : ∀ T : List Nat, T.Nodup → (∀ k ∈ T, k < 64 ∧ (A.ct k).isSome = true) → shN A T + T.length = thN A
  | [], _, _ => by
    unfold shN thN
    simp
  | p :: T, hn, ht => by
    rw [List.nodup_cons] at hn
    have ih := shN_add A T hn.2 fun k hk => ht k (List.mem_cons_of_mem _ hk)
    have h1 : shN A T = shN A (p :: T) + 1 := by
      unfold shN
      refine countP_one (a := p) ?_ ?_ (fun k hk => ?_) _ List.nodup_range (List.mem_range.2 (ht p List.mem_cons_self).1)
      · simp
      · simp [hn.1, (ht p List.mem_cons_self).2]
      · simp [hk]
    rw [List.length_cons]
    omega
theorem shN_nil (A : Ask) : shN A [] = thN A := by unfold shN thN; simp
theorem sharedN_count (ps pc : List Pg) (f : Nat → Bool) (h : ∀ k, k < 64 → sameCopy (ps.getD k Pg.zero) (pc.getD k Pg.zero) = f k) : sharedN ps pc 64 = (List.range 64).countP f := by
  unfold sharedN
  rw [← List.countP_eq_length_filter]
  exact List.countP_congr fun k hk => by rw [h k (List.mem_range.1 hk)]
/-- Two spaces of which pages were stored to share the others. -/
theorem Sh.shared {A : Ask} {x y : Spc} {T : List Nat} (h : Sh A x y T) (h2 : Two x y) : sharedN x.ps y.ps 64 = shN A T := by
  refine sharedN_count _ _ _ fun k hk => ?_
  obtain ⟨p, hp, -, h3, -⟩ := h.s.at_ hk
  obtain ⟨q, hq, -, h4, -⟩ := h.c.at_ hk
  rw [List.getD_eq_getElem?_getD, List.getD_eq_getElem?_getD, hp, hq, Option.getD_some, Option.getD_some, ← h3]
  unfold sameCopy
  cases hc1 : p.copy with
  | none => rfl
  | some g =>
    have ho := h.own k p q hk hp hq
    by_cases hT : k ∈ T
    · have ho1 := ho.2 hT
      rw [Bool.or_eq_true] at ho1
      have hne : (some g == q.copy) = false := by
        rw [beq_eq_false_iff_ne]
        intro e
        rcases ho1 with o1 | o1
        · exact h2.o1 g ⟨p, List.mem_of_getElem? hp, o1, hc1⟩ ⟨q, List.mem_of_getElem? hq, e.symm⟩
        · exact h2.o2 g ⟨q, List.mem_of_getElem? hq, o1, e.symm⟩ ⟨p, List.mem_of_getElem? hp, hc1⟩
      simp [hT, hne]
    · have ho1 : ¬ (p.own || q.own) = true := fun e => hT (ho.1 e)
      rw [Bool.or_eq_true] at ho1
      have hl := h.link k p q hk hp hq (by simpa using fun e => ho1 (.inl e)) (by simpa using fun e => ho1 (.inr e))
      rw [← hl, hc1]
      simp [hT]
/-- A space shares all its pages with itself. -/
theorem Wd.self {A : Ask} {x : Spc} (h : Wd A x.st.1) : sharedN x.ps x.ps 64 = thN A := by
  refine sharedN_count _ _ _ fun k hk => ?_
  obtain ⟨p, hp, -, h3, -⟩ := h.at_ hk
  rw [List.getD_eq_getElem?_getD, hp, Option.getD_some, ← h3]
  unfold sameCopy
  simp
theorem Sh.equal {A : Ask} {x y : Spc} {T : List Nat} (h : Sh A x y T) : eqV x.st.1 y.st.1 = true :=
  eqV_true fun k hk => by
    obtain ⟨v, hv, -, h1, h2⟩ := h.s k hk
    obtain ⟨u, hu, -, h3, h4⟩ := h.c k hk
    rw [eqAt_get hv hu, h1, h2, h3, h4]
    simp
theorem Wd.known {A : Ask} {x : Spc} {w : World} (h : Wd A x.st.1) (hx : x.ok w) : ∀ (k : Nat) v, x.st.1[k]? = some v → v.known = true := fun k v hv => by
  have hk : k < 64 := by
    have h1 := (List.getElem?_eq_some_iff.1 hv).1
    have h2 : x.st.1.length = x.ps.length := by show (vps x.ps x.fr).length = _; rw [vps, List.length_map]
    have := hx.sp.len
    omega
  obtain ⟨u, hu, h1, _⟩ := h k hk
  rw [hv] at hu
  cases hu
  exact h1

/-- How many pages the source's map has. -/
theorem putF_count (f : Int → Option (List UInt8)) (n : Nat) (x : Fl) (h : n = (List.range 64).countP fun k : Nat => (f (k : Int)).isSome) :
    (putF (f, n) x).2 = (List.range 64).countP fun k : Nat => ((putF (f, n) x).1 (k : Int)).isSome := by
  unfold putF
  dsimp only
  cases hf : (f ((x.1.toNat % 64 : Nat) : Int)).isSome with
  | true =>
    rw [if_pos rfl, h]
    refine (countP_same _ fun k _ => ?_).symm
    by_cases e : (k : Int) = ((x.1.toNat % 64 : Nat) : Int)
    · rw [if_pos e]
      rw [← e] at hf
      rw [hf]
      rfl
    · rw [if_neg e]
  | false =>
    rw [if_neg (by decide), h]
    refine (countP_one (P := fun k : Nat => (f (k : Int)).isSome) (a := x.1.toNat % 64) hf (by simp) (fun k hk => ?_) _ List.nodup_range (List.mem_range.2 (Nat.mod_lt _ (by decide)))).symm
    rw [if_neg (by omega)]
theorem srcF_count (l : List Fl) : (srcF l).2 = (List.range 64).countP fun k : Nat => ((srcF l).1 (k : Int)).isSome := by
  unfold srcF
  have : ∀ (l : List Fl) (f : Int → Option (List UInt8)) (n : Nat), n = ((List.range 64).countP fun k : Nat => (f (k : Int)).isSome) → (l.foldl putF (f, n)).2 = (List.range 64).countP fun k : Nat => ((l.foldl putF (f, n)).1 (k : Int)).isSome := fun l => by
    induction l with
    | nil => intro f n h; exact h
    | cons x l ih =>
      intro f n h
      rw [List.foldl_cons]
      exact ih _ _ (putF_count f n x h)
  refine this _ _ _ ?_
  simp
end Go.Proofs.Ytkdlmnhkbockhaa
