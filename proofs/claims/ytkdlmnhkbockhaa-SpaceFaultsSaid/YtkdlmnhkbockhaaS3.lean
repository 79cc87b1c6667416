/- What a space knows, in words; what a call on it changes. Conditions: those of each theorem. -/
import Derived.Test.YtkdlmnhkbockhaaS2
namespace Go.Proofs.Ytkdlmnhkbockhaa
open Go.RowKit

/-- A page as the reference has it. -/
structure VP where
  known : Bool
  there : Bool
  asked : Bool
  changed : Bool
  bytes : List UInt8
  own : Bool
def vp (fr : Nat → List UInt8) (p : Pg) : VP := ⟨p.known, p.copy.isSome, p.asked, p.changed, (p.copy.map fr).getD [], p.own⟩
/-- A source: its value; the blocks that it may change; what memory holds of it after some pages were asked for; what it tells; whether there is one. -/
structure Ask where
  src : Value
  T : Nat → Prop
  J : World → List Nat → Prop
  ct : Nat → Option (List UInt8)
  has : Bool
  stay : ∀ (D : Nat → Prop) (w w' : World) (log : List Nat), J w log → Mod D w w' → (∀ i, i < w.heap.size → D i → ¬ T i) → J w' log
  old : ∀ (w : World) (log : List Nat), J w log → ∀ i, T i → i < w.heap.size
def OwnF (ps : List Pg) (i : Nat) : Prop := ∃ p ∈ ps, p.own = true ∧ p.copy = some i
def RefF (ps : List Pg) (i : Nat) : Prop := ∃ p ∈ ps, p.copy = some i
theorem OwnF.ref {ps : List Pg} {i : Nat} (h : OwnF ps i) : RefF ps i := by
  obtain ⟨p, hp, _, hc⟩ := h
  exact ⟨p, hp, hc⟩
/-- A copy that is the page's own is no other page's. -/
def Excl (ps : List Pg) : Prop := ∀ (i j : Nat) (p q : Pg) (g : Nat), ps[i]? = some p → ps[j]? = some q → i ≠ j → p.own = true → p.copy = some g → q.copy ≠ some g
/-- The source was asked for the page. -/
def AskedP (ps : List Pg) (k : Nat) : Prop := ∃ p, ps[k]? = some p ∧ p.asked = true
theorem askedP_set {ps : List Pg} {k : Nat} {p p' : Pg} (hk : ps[k]? = some p) (ha : p'.asked = p.asked) (j : Nat) : AskedP (ps.set k p') j ↔ AskedP ps j := by
  unfold AskedP
  rw [List.getElem?_set]
  by_cases e : k = j
  · subst e
    rw [if_pos rfl, if_pos (List.getElem?_eq_some_iff.1 hk).1, hk]
    simp [ha]
  · rw [if_neg e]
/-- A space, its source, what was asked for. -/
structure Spi (A : Ask) (w : World) (S : Nat) (ps : List Pg) (fr : Nat → List UInt8) (log : List Nat) : Prop where
  sp : Sp w S A.src ps fr
  excl : Excl ps
  unk : ∀ p ∈ ps, p.known = false → p = Pg.zero
  j : A.J w log
  far : ¬ A.T S ∧ ∀ i, RefF ps i → ¬ A.T i
  lg : A.has = true → log.Nodup ∧ ∀ k, k ∈ log ↔ AskedP ps k
/-- What a call on the space changes. -/
structure Stp0 (A : Ask) (w w' : World) (S : Nat) (ps ps' : List Pg) (fr fr' : Nat → List UInt8) : Prop where
  mod : Mod (fun i => i = S ∨ OwnF ps i ∨ A.T i) w w'
  own : ∀ i, OwnF ps' i → OwnF ps i ∨ w.heap.size ≤ i
  ref : ∀ i, RefF ps' i → RefF ps i ∨ w.heap.size ≤ i
  fr : ∀ i, i < w.heap.size → ¬ OwnF ps i → fr' i = fr i
/-- .. and a copy that is not the page's own stays. -/
structure Stp (A : Ask) (w w' : World) (S : Nat) (ps ps' : List Pg) (fr fr' : Nat → List UInt8) : Prop extends Stp0 A w w' S ps ps' fr fr' where
  keep : ∀ (k : Nat) (p p' : Pg), ps[k]? = some p → ps'[k]? = some p' → p'.own = false → p'.copy.isSome = true → p'.copy = p.copy ∧ p.own = false
  len : ps'.length = ps.length
theorem keep_same {ps : List Pg} : ∀ (k : Nat) (p p' : Pg), ps[k]? = some p → ps[k]? = some p' → p'.own = false → p'.copy.isSome = true → p'.copy = p.copy ∧ p.own = false := fun k p p' h h' ho _ => by
  rw [h] at h'
  injection h' with h'
  subst h'
  exact ⟨rfl, ho⟩
theorem Stp.refl (A : Ask) (w : World) (S : Nat) (ps : List Pg) (fr : Nat → List UInt8) : Stp A w w S ps ps fr fr := ⟨⟨Mod.refl _ _, fun _ h => .inl h, fun _ h => .inl h, fun _ _ _ => rfl⟩, keep_same, rfl⟩
theorem Stp0.trans {A : Ask} {w w1 w2 : World} {S : Nat} {ps ps1 ps2 : List Pg} {fr fr1 fr2 : Nat → List UInt8} (h : Stp0 A w w1 S ps ps1 fr fr1) (k : Stp0 A w1 w2 S ps1 ps2 fr1 fr2) : Stp0 A w w2 S ps ps2 fr fr2 := by
  have hs := h.mod.size
  refine ⟨h.mod.trans k.mod (fun i hi e => ?_), fun i hi => ?_, fun i hi => ?_, fun i hi ho => ?_⟩
  · rcases e with e | e | e
    · exact .inl e
    · rcases h.own i e with h1 | h1
      · exact .inr (.inl h1)
      · omega
    · exact .inr (.inr e)
  · rcases k.own i hi with h1 | h1
    · exact h.own i h1
    · exact .inr (by omega)
  · rcases k.ref i hi with h1 | h1
    · exact h.ref i h1
    · exact .inr (by omega)
  · rw [k.fr i (by omega) (fun h1 => by rcases h.own i h1 with h2 | h2; exact ho h2; omega), h.fr i hi ho]
theorem Stp.trans {A : Ask} {w w1 w2 : World} {S : Nat} {ps ps1 ps2 : List Pg} {fr fr1 fr2 : Nat → List UInt8} (h : Stp A w w1 S ps ps1 fr fr1) (k : Stp A w1 w2 S ps1 ps2 fr1 fr2) : Stp A w w2 S ps ps2 fr fr2 :=
  ⟨h.toStp0.trans k.toStp0, fun i p p' hp hp' ho hc => by
    obtain ⟨p1, hp1⟩ : ∃ p1, ps1[i]? = some p1 := ⟨_, List.getElem?_eq_getElem (by rw [← k.len]; exact (List.getElem?_eq_some_iff.1 hp').1)⟩
    obtain ⟨h1, h2⟩ := k.keep i p1 p' hp1 hp' ho hc
    obtain ⟨h3, h4⟩ := h.keep i p p1 hp hp1 h2 (by rw [← h1]; exact hc)
    exact ⟨h1.trans h3, h4⟩, k.len.trans h.len⟩
theorem Stp.new {A : Ask} {w w' : World} {S : Nat} {ps : List Pg} {fr : Nat → List UInt8} (h : New w w') : Stp A w w' S ps ps fr fr := ⟨⟨h.new, fun _ h => .inl h, fun _ h => .inl h, fun _ _ _ => rfl⟩, keep_same, rfl⟩

theorem keep_set {ps : List Pg} {k : Nat} {p p' : Pg} (hk : ps[k]? = some p) (h : p'.own = false → p'.copy.isSome = true → p'.copy = p.copy ∧ p.own = false) :
    ∀ (j : Nat) (q q' : Pg), ps[j]? = some q → (ps.set k p')[j]? = some q' → q'.own = false → q'.copy.isSome = true → q'.copy = q.copy ∧ q.own = false := fun j q q' hq hq' ho hc => by
  rw [List.getElem?_set] at hq'
  split at hq'
  · rename_i e
    subst e
    rw [hk] at hq
    injection hq with hq
    subst hq
    split at hq'
    · injection hq' with hq'
      subst hq'
      exact h ho hc
    · cases hq'
  · rw [hq] at hq'
    injection hq' with hq'
    subst hq'
    exact ⟨rfl, ho⟩

/-- The pages as the reference has them. -/
def vps (ps : List Pg) (fr : Nat → List UInt8) : List VP := ps.map (vp fr)
theorem vps_get {ps : List Pg} {fr : Nat → List UInt8} {k : Nat} {p : Pg} (h : ps[k]? = some p) : (vps ps fr)[k]? = some (vp fr p) := by rw [vps, List.getElem?_map, h]; rfl
theorem vps_set (ps : List Pg) (fr : Nat → List UInt8) (k : Nat) (p : Pg) : vps (ps.set k p) fr = (vps ps fr).set k (vp fr p) := by rw [vps, List.map_set]; rfl
theorem Spi.get {A : Ask} {w : World} {S : Nat} {ps : List Pg} {fr : Nat → List UInt8} {log : List Nat} (h : Spi A w S ps fr log) {k : Nat} (hk : k < 64) : ∃ p, ps[k]? = some p := ⟨ps[k]'(by rw [h.sp.len]; exact hk), List.getElem?_eq_getElem _⟩

/-- A page after it was needed; what was asked for. -/
def needV (A : Ask) (k : Nat) (v : VP) : VP :=
  if v.known then v
  else if A.has then
    match A.ct k with
    | some b => ⟨true, true, true, v.changed, b, true⟩
    | none => { v with known := true, asked := true }
  else { v with known := true }
def needL (A : Ask) (k : Nat) (v : VP) (log : List Nat) : List Nat := if v.known then log else if A.has then log ++ [k] else log
/-- need does what it should. -/
def NeedOk (A : Ask) : Prop := ∀ (w : World) (S : Nat) (ps : List Pg) (fr : Nat → List UInt8) (log : List Nat) (k : Nat) (p : Pg), Spi A w S ps fr log → ps[k]? = some p →
  Calls Try.prog 33 #[.pointer (some ⟨S, 0, none⟩), .int .i64 (k : Int)] w fun e w' => e = .returned (.pointer (some ⟨S, 1 + k * 5, none⟩)) ∧
    ∃ ps' fr', Spi A w' S ps' fr' (needL A k (vp fr p) log) ∧ vps ps' fr' = (vps ps fr).set k (needV A k (vp fr p)) ∧ Stp A w w' S ps ps' fr fr'

/-- No source. -/
def noAsk : Ask := ⟨.nilFunc, fun _ => False, fun _ _ => True, fun _ => none, false, fun _ _ _ _ _ _ _ => trivial, fun _ _ _ _ h => h.elim⟩
theorem excl_set {ps : List Pg} (h : Excl ps) {k : Nat} {p p' : Pg} (hk : ps[k]? = some p) (hc : p'.copy = p.copy) (ho : p'.own = p.own) : Excl (ps.set k p') := by
  intro i j x y g hi hj hij hx hg
  have cs : ∀ {i : Nat} {x : Pg}, (ps.set k p')[i]? = some x → ∃ x0, ps[i]? = some x0 ∧ x.copy = x0.copy ∧ x.own = x0.own := fun {i x} hi => by
    rw [List.getElem?_set] at hi
    split at hi
    · rename_i he
      subst he
      split at hi
      · injection hi with hi
        subst hi
        exact ⟨p, hk, hc, ho⟩
      · cases hi
    · exact ⟨x, hi, rfl, rfl⟩
  obtain ⟨x0, hx0, hxc, hxo⟩ := cs hi
  obtain ⟨y0, hy0, hyc, -⟩ := cs hj
  rw [hyc]
  exact h i j x0 y0 g hx0 hy0 hij (by rw [← hxo]; exact hx) (by rw [← hxc]; exact hg)
theorem mem_set {α : Type} {l : List α} {k : Nat} {x y : α} (h : y ∈ l.set k x) : y ∈ l ∨ y = x := List.mem_or_eq_of_mem_set h
theorem noAsk_need : NeedOk noAsk := by
  intro w S ps fr log k p h hk
  refine (need_none S ps fr k p w h.sp hk).mono ?_
  rintro e w' ⟨rfl, hsp, hm⟩
  have hcopy : (needN p).copy = p.copy := rfl
  have hown : (needN p).own = p.own := rfl
  have hmem := List.mem_of_getElem? hk
  have ofs : ∀ q ∈ ps.set k (needN p), ∃ q0 ∈ ps, q.copy = q0.copy ∧ q.own = q0.own := fun q hq => by
    rcases mem_set hq with h1 | rfl
    · exact ⟨q, h1, rfl, rfl⟩
    · exact ⟨p, hmem, rfl, rfl⟩
  refine ⟨rfl, ps.set k (needN p), fr, ⟨hsp, excl_set h.excl hk hcopy hown, fun q hq hu => ?_, trivial, ⟨fun h => h, fun _ _ h => h⟩, fun h => by cases h⟩, ?_, ⟨⟨hm.mono (fun i _ e => .inl e), fun i hi => ?_, fun i hi => ?_, fun _ _ _ => rfl⟩, keep_set hk (fun h _ => ⟨rfl, h⟩), List.length_set⟩⟩
  · rcases mem_set hq with h1 | rfl
    · exact h.unk q h1 hu
    · cases hu
  · rw [vps_set]
    congr 1
    unfold needV
    cases hp : p.known
    · rw [if_neg (by simp [vp, hp])]
      rfl
    · rw [if_pos (by simp [vp, hp])]
      simp [vp, needN, hp]
  · obtain ⟨q, hq, h1, h2⟩ := hi
    obtain ⟨q0, hq0, e1, e2⟩ := ofs q hq
    exact .inl ⟨q0, hq0, by rw [← e2]; exact h1, by rw [← e1]; exact h2⟩
  · obtain ⟨q, hq, h1⟩ := hi
    obtain ⟨q0, hq0, e1, _⟩ := ofs q hq
    exact .inl ⟨q0, hq0, by rw [← e1]; exact h1⟩
end Go.Proofs.Ytkdlmnhkbockhaa
