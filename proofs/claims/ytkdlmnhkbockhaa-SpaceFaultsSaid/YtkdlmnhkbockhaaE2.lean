/- Fork among several spaces; loads and stores of one byte of a page that is known; counts. Conditions: those of each theorem. -/
import Derived.Test.YtkdlmnhkbockhaaE1
namespace Go.Proofs.Ytkdlmnhkbockhaa
open Go.RowKit Go.Maps

theorem Multi.add {w : World} {l : List Spc} {y : Spc} (h : Multi w l) (hy : y.ok w) (h2 : ∀ (i : Nat) x, l[i]? = some x → Two x y) : Multi w (l ++ [y]) := by
  have cs : ∀ (i : Nat) x, (l ++ [y])[i]? = some x → l[i]? = some x ∨ (i = l.length ∧ x = y) := fun i x hi => by
    by_cases hl : i < l.length
    · rw [List.getElem?_append_left hl] at hi
      exact .inl hi
    · rw [List.getElem?_append_right (by omega)] at hi
      obtain ⟨j, hj⟩ : ∃ j, i - l.length = j := ⟨_, rfl⟩
      rw [hj] at hi
      cases j with
      | zero => cases hi; exact .inr ⟨by omega, rfl⟩
      | succ j => cases hi
  refine ⟨fun i x hi => ?_, fun i j x z hi hj hij => ?_⟩
  · rcases cs i x hi with h1 | ⟨_, rfl⟩
    · exact h.ok i x h1
    · exact hy
  · rcases cs i x hi with h1 | ⟨e1, rfl⟩
    · rcases cs j z hj with h3 | ⟨_, rfl⟩
      · exact h.two i j x z h1 h3 hij
      · exact h2 i x h1
    · rcases cs j z hj with h3 | ⟨e3, rfl⟩
      · exact (h2 j z h3).symm
      · omega
theorem refF_ch {ps : List Pg} {i : Nat} (h : RefF (ps.map ch) i) : RefF ps i := by
  obtain ⟨q, hq, hc⟩ := h
  obtain ⟨p, hp, rfl⟩ := List.mem_map.1 hq
  exact ⟨p, hp, hc⟩
theorem ownF_ch {ps : List Pg} {i : Nat} (h : OwnF (ps.map ch) i) : False := by
  obtain ⟨q, hq, ho, _⟩ := h
  obtain ⟨p, hp, rfl⟩ := List.mem_map.1 hq
  cases ho
theorem vps_ch (ps : List Pg) (fr : Nat → List UInt8) : vps (ps.map ch) fr = (vps ps fr).map childV := by
  unfold vps
  rw [List.map_map, List.map_map]
  rfl
theorem Spc.st_mk (A : Ask) (S : Nat) (ps : List Pg) (fr : Nat → List UInt8) (log : List Nat) : Spc.st ⟨A, S, ps, fr, log⟩ = (vps ps fr, log) := rfl
/-- Fork, of one of several spaces. -/
theorem fork_ms {w0 w : World} {l : List Spc} {i : Nat} {x : Spc} (h : Ms w0 w l) (hi : l[i]? = some x) (hA : NeedOk x.A) :
    Calls Try.prog 14 #[.pointer (some ⟨x.S, 0, none⟩)] w fun e w' => e = .returned (.pointer (some ⟨w.heap.size, 0, none⟩)) ∧
      ∃ x', Ms w0 w' (l.set i x' ++ [⟨noAsk, w.heap.size, x'.ps.map ch, x'.fr, []⟩]) ∧ x'.A = x.A ∧ x'.S = x.S ∧ x'.st = forkN x.A 64 x.st ∧ ∀ p ∈ x'.ps, p.own = false := by
  refine (fork_ok hA x.S x.ps x.fr x.log w (h.m.ok i x hi)).mono ?_
  rintro e w' ⟨he, ps', fr', h1, h2, h3, h4, h5⟩
  have hms := h.step hi h1 h3
  have hsz := h3.mod.size
  have hsz0 := h.new.size
  have hil := (List.getElem?_eq_some_iff.1 hi).1
  have hx : (l.set i ⟨x.A, x.S, ps', fr', (forkN x.A 64 (vps x.ps x.fr, x.log)).2⟩)[i]? = some ⟨x.A, x.S, ps', fr', (forkN x.A 64 (vps x.ps x.fr, x.log)).2⟩ := by rw [List.getElem?_set, if_pos rfl, if_pos hil]
  have hCS : w.heap.size ≠ x.S := fun e => by have := (h.m.ok i x hi).sp.blk.lt; omega
  have hfrC : ∀ p ∈ ps'.map ch, ∀ g, p.copy = some g → Blk w' g 92 (bts (fr' g)).toArray ∧ (fr' g).length = 64 := fun q hq g hg => by
    obtain ⟨p, hp, rfl⟩ := List.mem_map.1 hq
    exact h1.sp.frm p hp g hg
  have hy : Spi noAsk w' w.heap.size (ps'.map ch) fr' [] :=
    ⟨⟨h5, by rw [List.length_map]; exact h1.sp.len, hfrC⟩, fun a b p q g hp _ _ ho _ => (by
      rw [List.getElem?_map] at hp
      cases hh : ps'[a]? with
      | none => rw [hh] at hp; cases hp
      | some p0 => rw [hh] at hp; cases hp; cases ho), fun q hq hu => (by
      obtain ⟨p, hp, rfl⟩ := List.mem_map.1 hq
      cases hu), trivial, ⟨fun h => h, fun _ _ h => h⟩, fun h => by cases h⟩
  refine ⟨he, ⟨x.A, x.S, ps', fr', (forkN x.A 64 (vps x.ps x.fr, x.log)).2⟩, ⟨hms.m.add hy fun j z hz => ?_, hms.new, fun j z hz => ?_⟩, rfl, rfl, ?_, h4⟩
  · have hzw : z.ok w' := hms.m.ok j z hz
    have hTold : ∀ i, z.A.T i → i < w'.heap.size := fun i ht => z.A.old _ _ hzw.j i ht
    have hzS := hzw.sp.blk.lt
    have hznew : z.S ≠ w.heap.size ∧ ∀ i, z.A.T i → i < w.heap.size := by
      rcases get_set hz with ⟨_, rfl⟩ | ⟨_, hz0⟩
      · exact ⟨Ne.symm hCS, fun i ht => x.A.old _ _ (h.m.ok _ x hi).j i ht⟩
      · have h0 := h.m.ok j z hz0
        exact ⟨fun e => by have := h0.sp.blk.lt; omega, fun i ht => z.A.old _ _ h0.j i ht⟩
    by_cases hji : j = i
    · subst hji
      rw [hx] at hz
      cases hz
      refine ⟨Ne.symm hCS, fun k hk => ?_, fun k hk => (ownF_ch hk).elim, fun _ h => h.elim, fun k hk => ⟨fun e => ?_, fun hr => ?_, fun h => h⟩⟩
      · obtain ⟨p, hp, ho, _⟩ := hk
        rw [h4 p hp] at ho
        cases ho
      · have h1 := hznew.2 k hk
        have e' : k = w.heap.size := e
        omega
      · exact h1.far.2 k (refF_ch hr) hk
    · have h2 := hms.m.two j i z _ hz hx hji
      refine ⟨hznew.1, fun k hk hr => h2.o1 k hk (refF_ch hr), fun k hk => (ownF_ch hk).elim, fun _ h => h.elim, fun k hk => ⟨fun e => ?_, fun hr => (h2.t2 k hk).2.1 (refF_ch hr), fun h => h⟩⟩
      have h1 := hznew.2 k hk
      have e' : k = w.heap.size := e
      omega
  · by_cases hl : j < (l.set i ⟨x.A, x.S, ps', fr', (forkN x.A 64 (vps x.ps x.fr, x.log)).2⟩).length
    · rw [List.getElem?_append_left hl] at hz
      exact hms.late j z hz
    · rw [List.getElem?_append_right (by omega)] at hz
      obtain ⟨k, hk⟩ : ∃ k, j - (l.set i ⟨x.A, x.S, ps', fr', (forkN x.A 64 (vps x.ps x.fr, x.log)).2⟩).length = k := ⟨_, rfl⟩
      rw [hk] at hz
      cases k with
      | succ k => cases hz
      | zero =>
        cases hz
        exact ⟨hsz0, fun k hk => (ownF_ch hk).elim, fun _ h => h.elim⟩
  · rw [Spc.st_mk, Spc.st, h2]

/-! ### Words -/
theorem needV_id (A : Ask) (k : Nat) {v : VP} (h : v.known = true) : needV A k v = v := by rw [needV, if_pos h]
theorem needL_id (A : Ask) (k : Nat) {v : VP} (h : v.known = true) (log : List Nat) : needL A k v log = log := by rw [needL, if_pos h]
theorem needS_id (A : Ask) (k : Nat) {s : VS} (h : ∀ v, s.1[k]? = some v → v.known = true) : needS A k s = s := by
  unfold needS
  cases hv : s.1[k]? with
  | none => rfl
  | some v => dsimp only; rw [needV_id A k (h v hv), needL_id A k (h v hv), set_same hv]
theorem pagesN_id (A : Ask) {s : VS} (h : ∀ (k : Nat) v, s.1[k]? = some v → v.known = true) : ∀ j, (pagesN A j s).2 = s
  | 0 => rfl
  | j + 1 => by
    unfold pagesN
    dsimp only
    rw [pagesN_id A h j, needS_id A j (h j)]
theorem reach_one (A : Ask) {s : VS} {p : Nat} {v : VP} (hp : p < 64) (hv : s.1[p]? = some v) (hk : v.known = true) : reachP A ((p : Int) * 64) 1 s = (if v.there then 0 else 23, s) := by
  have h1 : ((p : Int) * 64 / 64).toNat = p := by omega
  have h2 : (((p : Int) * 64 + 1 - 1) / 64).toNat = p := by omega
  have hr : ∀ f, rch A (f + 1) p p s = (v.there, s) := fun f => by
    rw [rch, if_pos (Nat.le_refl _), hv]
    dsimp only
    rw [needV_id A p hk, needL_id A p hk, set_same hv]
    cases ht : v.there
    · rfl
    · rw [if_pos rfl, rch_end A _ _ _ _ (by omega)]
  rw [reachP, if_neg (by decide), if_neg (by omega), h1, h2, show (64 : Nat) = 63 + 1 from rfl, hr 63]
theorem load_one (A : Ask) {s : VS} {p : Nat} {v : VP} (hp : p < 64) (hv : s.1[p]? = some v) (hk : v.known = true) : loadP A ((p : Int) * 64) 1 s = if v.there then (([v.bytes.getD 0 0], 0), s) else (([], 23), s) := by
  rw [loadP, if_neg (by decide), reach_one A hp hv hk]
  cases v.there
  · rfl
  · have ht : ((p : Int) * 64).toNat = p * 64 := by omega
    have hb : byteAt s.1 (p * 64 + 0) = v.bytes.getD 0 0 := by
      unfold byteAt
      rw [show (p * 64 + 0) / 64 = p from by omega, show (p * 64 + 0) % 64 = 0 from by omega, List.getD_eq_getElem?_getD (l := s.1), hv]
      rfl
    simp only [if_true, ht, loadB]
    show (([byteAt s.1 (p * 64 + 0)], 0), s) = _
    rw [hb]
theorem set_zero : ∀ l : List UInt8, l.set 0 (l.getD 0 0) = l
  | [] => rfl
  | _ :: _ => rfl
theorem store_one (A : Ask) {s : VS} {p : Nat} {v : VP} (hp : p < 64) (hv : s.1[p]? = some v) (hk : v.known = true) (ht : v.there = true) : storeP A ((p : Int) * 64) [v.bytes.getD 0 0] s = (0, (s.1.set p { v with changed := true, own := true }, s.2)) := by
  have hn : ((p : Int) * 64).toNat = p * 64 := by omega
  rw [storeP, show (([v.bytes.getD 0 0] : List UInt8).length : Int) = 1 from rfl, reach_one A hp hv hk, ht]
  simp only [if_true, hn, storeB, putB]
  rw [show p * 64 / 64 = p from by omega, show p * 64 % 64 = 0 from by omega, hv]
  dsimp only
  rw [set_zero, ← ht]

/-- A count grows by one. -/
theorem countP_one {P Q : Nat → Bool} {a : Nat} (hP : P a = false) (hQ : Q a = true) (hne : ∀ k, k ≠ a → P k = Q k) : ∀ l : List Nat, l.Nodup → a ∈ l → l.countP Q = l.countP P + 1
  | [], _, h => absurd h List.not_mem_nil
  | b :: l, hn, hm => by
    rw [List.nodup_cons] at hn
    by_cases e : b = a
    · subst e
      have : l.countP Q = l.countP P := List.countP_congr fun k hk => by
        rw [hne k (fun e => hn.1 (e ▸ hk))]
      rw [List.countP_cons_of_pos hQ, List.countP_cons_of_neg (by rw [hP]; decide), this]
    · have ih := countP_one hP hQ hne l hn.2 (by
        rcases List.mem_cons.1 hm with h | h
        · exact absurd h.symm e
        · exact h)
      rw [List.countP_cons, List.countP_cons, hne b e, ih]
      omega
theorem countP_same {P Q : Nat → Bool} (l : List Nat) (h : ∀ k ∈ l, P k = Q k) : l.countP Q = l.countP P := List.countP_congr fun k hk => by rw [h k hk]

/-! ### A map of Booleans -/
theorem plainElem_bool_inv {P : Program} {e : TypeId} {H : Type} (he : P.underlying e = some .bool) {v : Value} {z : DataW H × List MemPlace} (h : plainElem P e v = some z) : ∃ b, v = .bool b ∧ z = (.lit (.bool b), []) := by
  unfold plainElem at h
  rw [he] at h
  cases v <;> simp at h
  subst h
  exact ⟨_, rfl, rfl⟩
def elB : El Bool where
  t := 36
  e := 4
  ht := Try.underlying36
  val b := .bool b
  lit b := .bool b
  ok _ := True
  rd b _ := plainElem_bool Try.underlying4 b
  inv v z h := by
    obtain ⟨b, rfl, rfl⟩ := plainElem_bool_inv Try.underlying4 h
    exact ⟨b, rfl, rfl⟩
  inj a b h := by injection h
  zero := false
  zok := trivial
  hz _ := by kernel_rfl
end Go.Proofs.Ytkdlmnhkbockhaa
