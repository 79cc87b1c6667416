/- The tokens of a packed form, and those of bytes that occur again behind pairs. Conditions: those of each theorem. -/
import Derived.Test.YtcpiplfajgdohaaL3
namespace Go.Proofs.Ytcpiplfajgdohaa

/-- The tokens, if each is whole. -/
def prs : Nat → List UInt8 → Option (List Tk)
  | 0, _ => some []
  | f + 1, rest =>
    if rest.length = 0 then some []
    else if (nextE rest).2.2 ≠ 0 then none
    else (prs f (rest.drop (nextE rest).2.1)).map ((nextE rest).1 :: ·)
theorem prs_more : ∀ (f g : Nat) (rest : List UInt8), rest.length ≤ f → rest.length ≤ g → prs f rest = prs g rest
  | 0, 0, rest, _, _ => rfl
  | 0, g + 1, rest, h, _ => by rw [prs, prs, if_pos (by omega)]
  | f + 1, 0, rest, _, h => by rw [prs, prs, if_pos (by omega)]
  | f + 1, g + 1, rest, h1, h2 => by
    rw [prs, prs]
    split
    · rfl
    · split
      · rfl
      · rename_i h0 he
        obtain ⟨x, xs, rfl⟩ : ∃ x xs, rest = x :: xs := by
          cases rest with
          | nil => simp at h0
          | cons x xs => exact ⟨x, xs, rfl⟩
        have hsz := nextE_size x xs (by simpa using he)
        rw [prs_more f g _ (by rw [List.length_drop]; simp only [List.length_cons] at h1 ⊢; omega) (by rw [List.length_drop]; simp only [List.length_cons] at h2 ⊢; omega)]
/-- Whole tokens at the beginning. -/
def Whole (X : List UInt8) : Prop := ∃ l : List Tk, ∀ rest, ∃ g, (X ++ rest).length ≤ g ∧ prs g (X ++ rest) = (prs rest.length rest).map (l ++ ·)
theorem Whole.nil : Whole [] := ⟨[], fun rest => ⟨rest.length, by simp, by simp⟩⟩
theorem Whole.prs {X rest : List UInt8} (h : Whole X) : ∃ l : List Tk, prs (X ++ rest).length (X ++ rest) = (prs rest.length rest).map (l ++ ·) := by
  obtain ⟨l, hl⟩ := h
  obtain ⟨g, h1, h2⟩ := hl rest
  exact ⟨l, by rw [← h2]; exact prs_more _ _ _ (Nat.le_refl _) h1⟩
theorem Whole.append {X Y : List UInt8} (hX : Whole X) (hY : Whole Y) : Whole (X ++ Y) := by
  obtain ⟨l, hl⟩ := hX
  obtain ⟨m, hm⟩ := hY
  refine ⟨l ++ m, fun rest => ?_⟩
  obtain ⟨g, h1, h2⟩ := hl (Y ++ rest)
  obtain ⟨g', h1', h2'⟩ := hm rest
  refine ⟨g, by rw [List.append_assoc]; exact h1, ?_⟩
  rw [List.append_assoc, h2, prs_more (Y ++ rest).length g' _ (Nat.le_refl _) h1', h2', Option.map_map]
  congr 1
  funext z
  simp
theorem Whole.lit (ls : List UInt8) (h1 : 0 < ls.length) (h2 : ls.length ≤ 128) : Whole (UInt8.ofNat (ls.length - 1) :: ls) := by
  refine ⟨[(ls, 0, 0)], fun rest => ⟨(ls ++ rest).length + 1, by simp, ?_⟩⟩
  have hn := nextE_lit ls rest h1 h2
  rw [List.cons_append]
  conv => lhs; unfold Go.Proofs.Ytcpiplfajgdohaa.prs
  rw [if_neg (by simp), hn, if_neg (by simp)]
  dsimp only
  rw [List.drop_succ_cons, List.drop_left, prs_more (ls ++ rest).length rest.length rest (by simp) (Nat.le_refl _)]
  rfl
theorem Whole.mat (d n : Nat) (h1 : 1 ≤ d) (h2 : d ≤ 4096) (h3 : 4 ≤ n) (h4 : n ≤ 131) : Whole (matB d n) := by
  refine ⟨[([], d, n)], fun rest => ⟨rest.length + 2 + 1, by simp [matB], ?_⟩⟩
  have hn := nextE_mat d n rest h1 h2 h3 h4
  conv => lhs; unfold Go.Proofs.Ytcpiplfajgdohaa.prs
  rw [if_neg (by simp [matB]), hn, if_neg (by simp)]
  dsimp only
  rw [show (matB d n ++ rest).drop 3 = rest from rfl, prs_more (rest.length + 2) rest.length rest (by omega) (Nat.le_refl _)]
  rfl
theorem Whole.flush : ∀ (m : Nat) (ws : List UInt8), ws.length ≤ m → Whole (flushB ws)
  | 0, ws, h => by
    have : ws = [] := List.eq_nil_of_length_eq_zero (by omega)
    subst this
    exact Whole.nil
  | m + 1, ws, h => by
    by_cases hw : ws = []
    · subst hw; exact Whole.nil
    · have hl : 0 < ws.length := List.length_pos_iff.2 hw
      rw [flushB_step ws hw]
      have hlt : (ws.take 128).length = min 128 ws.length := List.length_take
      have h1 := Whole.lit (ws.take 128) (by omega) (by omega)
      rw [hlt] at h1
      exact h1.append (Whole.flush m (ws.drop 128) (by rw [List.length_drop]; omega))
theorem Whole.pks (all : List UInt8) : ∀ (f at_ : Nat) (wait : List UInt8), Whole (pks all f at_ wait)
  | 0, at_, wait => Whole.flush _ wait (Nat.le_refl _)
  | f + 1, at_, wait => by
    unfold Go.Proofs.Ytcpiplfajgdohaa.pks
    split
    · split
      · exact Whole.pks all f _ _
      · obtain ⟨m1, m2, m3, m4, m5, m6, m7⟩ := (findB_isM all at_).resolve_left (by omega)
        exact (Whole.flush _ wait (Nat.le_refl _)).append ((Whole.mat _ _ m1 m3 m4 m5).append (Whole.pks all f _ _))
    · exact Whole.flush _ wait (Nat.le_refl _)
theorem prs_packB (dict b : List UInt8) : ∃ l, prs (packB dict b).length (packB dict b) = some l := by
  rw [packB_pks]
  obtain ⟨l, hl⟩ := (Whole.pks (dict.drop (dict.length - 4096) ++ b) b.length (dict.length - (dict.length - 4096)) []).prs (rest := [])
  rw [List.append_nil] at hl
  exact ⟨_, hl⟩

/-- No match goes beyond the place a1: the packer comes to it. -/
theorem pks_reach (all : List UInt8) (a1 : Nat) (ha : a1 ≤ all.length) : ∀ (f at_ : Nat) (wait : List UInt8), at_ ≤ a1 → all.length ≤ at_ + f → (∀ x, at_ ≤ x → x < a1 → x + (findB all x).2 ≤ a1) →
    ∃ X wait' f', Whole X ∧ pks all f at_ wait = X ++ pks all f' a1 wait' ∧ all.length ≤ a1 + f'
  | 0, at_, wait, h1, h2, _ => by
    have : at_ = a1 := by omega
    subst this
    exact ⟨[], wait, 0, Whole.nil, rfl, by omega⟩
  | f + 1, at_, wait, h1, h2, h3 => by
    by_cases he : at_ = a1
    · subst he
      exact ⟨[], wait, f + 1, Whole.nil, rfl, h2⟩
    · by_cases hn : (findB all at_).2 < 4
      · obtain ⟨X, w', f', hX, hp, hf⟩ := pks_reach all a1 ha f (at_ + 1) (wait ++ [all.getD at_ 0]) (by omega) (by omega) (fun x hx => h3 x (by omega))
        refine ⟨X, w', f', hX, ?_, hf⟩
        rw [← hp]
        conv => lhs; unfold pks
        rw [if_pos (by omega), if_pos hn]
      · obtain ⟨m1, m2, m3, m4, m5, m6, m7⟩ := (findB_isM all at_).resolve_left (by omega)
        obtain ⟨X, w', f', hX, hp, hf⟩ := pks_reach all a1 ha f (at_ + (findB all at_).2) [] (h3 at_ (Nat.le_refl _) (by omega)) (by omega) (fun x hx => h3 x (by omega))
        refine ⟨flushB wait ++ (matB (findB all at_).1 (findB all at_).2 ++ X), w', f', (Whole.flush _ wait (Nat.le_refl _)).append ((Whole.mat _ _ m1 m3 m4 m5).append hX), ?_, hf⟩
        rw [List.append_assoc, List.append_assoc, ← hp]
        conv => lhs; unfold pks
        rw [if_pos (by omega), if_neg hn]

/-- The pairs. -/
def prsOf : Nat → List UInt8
  | 0 => []
  | g + 1 => prsOf g ++ [UInt8.ofNat g, UInt8.ofNat (g / 256 + 100)]
theorem prsOf_length : ∀ g, (prsOf g).length = 2 * g
  | 0 => rfl
  | g + 1 => by rw [prsOf, List.length_append, prsOf_length g]; simp; omega
theorem prsOf_get : ∀ (g i : Nat), i < g → (prsOf g)[2 * i]? = some (UInt8.ofNat i) ∧ (prsOf g)[2 * i + 1]? = some (UInt8.ofNat (i / 256 + 100))
  | 0, i, h => by omega
  | g + 1, i, h => by
    rw [prsOf]
    by_cases hi : i = g
    · subst hi
      rw [List.getElem?_append_right (by rw [prsOf_length]; omega), List.getElem?_append_right (by rw [prsOf_length]; omega), prsOf_length, Nat.sub_self, show 2 * i + 1 - 2 * i = 1 from by omega]
      exact ⟨rfl, rfl⟩
    · rw [List.getElem?_append_left (by rw [prsOf_length]; omega), List.getElem?_append_left (by rw [prsOf_length]; omega)]
      exact prsOf_get g i (by omega)

/-- What the bytes are: the mark, the pairs, the mark. -/
structure Win (all m : List UInt8) (gap : Nat) : Prop where
  eq : all = m ++ prsOf gap ++ m
  big : ∀ x ∈ m, 200 ≤ x.toNat
  gap1 : 1 ≤ gap
  len : 4 ≤ m.length
  m30 : m.length ≤ 30
  far : m.length + 2 * gap ≤ 4096

section
variable {all m : List UInt8} {gap : Nat}
theorem Win.length (h : Win all m gap) : all.length = m.length + 2 * gap + m.length := by
  rw [h.eq, List.length_append, List.length_append, prsOf_length]
theorem Win.atM (h : Win all m gap) (j : Nat) (hj : j < m.length) : all.getD j 0 = m.getD j 0 ∧ 200 ≤ (all.getD j 0).toNat := by
  have h1 : all.getD j 0 = m.getD j 0 := by
    rw [h.eq, List.getD_eq_getElem?_getD, List.getD_eq_getElem?_getD, List.append_assoc, List.getElem?_append_left hj]
  refine ⟨h1, ?_⟩
  rw [h1, List.getD_eq_getElem?_getD, List.getElem?_eq_getElem hj]
  exact h.big _ (List.getElem_mem hj)
theorem Win.atE (h : Win all m gap) (j : Nat) (hj : j < m.length) : all.getD (m.length + 2 * gap + j) 0 = m.getD j 0 := by
  rw [h.eq, List.getD_eq_getElem?_getD, List.getD_eq_getElem?_getD, List.getElem?_append_right (by rw [List.length_append, prsOf_length]; omega), List.length_append, prsOf_length]
  congr 2
  omega
theorem Win.atEbig (h : Win all m gap) (k : Nat) (h1 : m.length + 2 * gap ≤ k) (h2 : k < all.length) : 200 ≤ (all.getD k 0).toNat := by
  have hl := h.length
  have := h.atE (k - (m.length + 2 * gap)) (by omega)
  rw [show m.length + 2 * gap + (k - (m.length + 2 * gap)) = k from by omega] at this
  rw [this, List.getD_eq_getElem?_getD, List.getElem?_eq_getElem (by omega)]
  exact h.big _ (List.getElem_mem _)
theorem Win.atP (h : Win all m gap) (i : Nat) (hi : i < gap) : (all.getD (m.length + 2 * i) 0).toNat = i % 256 ∧ (all.getD (m.length + 2 * i + 1) 0).toNat = i / 256 + 100 := by
  have hg := prsOf_get gap i hi
  have hfar := h.far
  have hlen := h.len
  have e1 : all[m.length + 2 * i]? = some (UInt8.ofNat i) := by
    rw [h.eq, List.append_assoc, List.getElem?_append_right (by omega), show m.length + 2 * i - m.length = 2 * i from by omega, List.getElem?_append_left (by rw [prsOf_length]; omega)]
    exact hg.1
  have e2 : all[m.length + 2 * i + 1]? = some (UInt8.ofNat (i / 256 + 100)) := by
    rw [h.eq, List.append_assoc, List.getElem?_append_right (by omega), show m.length + 2 * i + 1 - m.length = 2 * i + 1 from by omega, List.getElem?_append_left (by rw [prsOf_length]; omega)]
    exact hg.2
  rw [List.getD_eq_getElem?_getD, List.getD_eq_getElem?_getD, e1, e2]
  simp only [Option.getD_some, UInt8.toNat_ofNat', Nat.reducePow]
  have : i / 256 ≤ 7 := by omega
  exact ⟨trivial, by omega⟩

/-- Four bytes that are alike, as numbers. -/
theorem four_num {p at_ : Nat} (h4 : (all.drop p).take 4 = (all.drop at_).take 4) (i : Nat) (hi : i < 4) : (all.getD (p + i) 0).toNat = (all.getD (at_ + i) 0).toNat := by
  rw [getD_of_take h4 hi]

theorem crossed (i j : Nat) (hi : i < 2048) (h1 : j % 256 = i / 256 + 100) (h2 : (i + 1) % 256 = j / 256 + 100) (h3 : (j + 1) % 256 = (i + 1) / 256 + 100) : False := by
  have a1 : i / 256 ≤ 7 := by omega
  have a2 : (j + 1) % 256 = j % 256 + 1 := by omega
  have a3 : (i + 1) / 256 = i / 256 + 1 := by omega
  have a4 : (i + 1) % 256 = 0 := by omega
  omega
/-- No four bytes that begin in the pairs have occurred before. -/
theorem Win.none (h : Win all m gap) {at_ p : Nat} (h1 : m.length ≤ at_) (h2 : at_ < m.length + 2 * gap) (hp : p < at_) (h4 : (all.drop p).take 4 = (all.drop at_).take 4) : False := by
  have hl := h.length
  have hlen := h.len
  have hfar := h.far
  have n0 := four_num h4 0 (by decide)
  have n1 := four_num h4 1 (by decide)
  have n2 := four_num h4 2 (by decide)
  have n3 := four_num h4 3 (by decide)
  rw [Nat.add_zero, Nat.add_zero] at n0
  obtain ⟨i, hi⟩ : ∃ i, i = (at_ - m.length) / 2 := ⟨_, rfl⟩
  have hig : i < gap := by omega
  have Pi := h.atP i hig
  -- what stands at the places of the pairs, and at the marks
  by_cases hev : at_ = m.length + 2 * i
  · -- the first of a pair
    rw [hev] at n0 n1 n2 n3
    rw [Pi.1] at n0
    rw [Pi.2] at n1
    have hpm : ¬ p + 1 < m.length := fun hlt => by have := (h.atM (p + 1) hlt).2; omega
    obtain ⟨j, hj⟩ : ∃ j, j = (p + 1 - m.length) / 2 := ⟨_, rfl⟩
    have hjg : j < gap := by omega
    have Pj := h.atP j hjg
    by_cases hpe : p + 1 = m.length + 2 * j
    · rw [hpe, Pj.1] at n1
      -- the places are crossed
      have e2 : (all.getD (p + 2) 0).toNat = j / 256 + 100 := by rw [show p + 2 = m.length + 2 * j + 1 from by omega]; exact Pj.2
      rw [e2] at n2
      by_cases hi1 : i + 1 < gap
      · have Pi1 := h.atP (i + 1) hi1
        rw [show m.length + 2 * i + 2 = m.length + 2 * (i + 1) from by omega, Pi1.1] at n2
        rw [show m.length + 2 * i + 3 = m.length + 2 * (i + 1) + 1 from by omega, Pi1.2] at n3
        have Pj1 := h.atP (j + 1) (by omega)
        rw [show p + 3 = m.length + 2 * (j + 1) from by omega, Pj1.1] at n3
        exact crossed i j (by omega) n1 n2.symm n3
      · have := h.atEbig (m.length + 2 * i + 2) (by omega) (by omega)
        omega
    · have hpo : p = m.length + 2 * j := by omega
      rw [hpo, Pj.1] at n0
      rw [hpo, Pj.2] at n1
      omega
  · -- the second of a pair
    have hod : at_ = m.length + 2 * i + 1 := by omega
    rw [hod] at n0 n1 n2 n3
    rw [Pi.2] at n0
    have hpm : ¬ p < m.length := fun hlt => by have := (h.atM p hlt).2; omega
    obtain ⟨j, hj⟩ : ∃ j, j = (p - m.length) / 2 := ⟨_, rfl⟩
    have hjg : j < gap := by omega
    have Pj := h.atP j hjg
    by_cases hpe : p = m.length + 2 * j
    · rw [hpe, Pj.1] at n0
      rw [hpe, Pj.2] at n1
      by_cases hi1 : i + 1 < gap
      · have Pi1 := h.atP (i + 1) hi1
        have Pj1 := h.atP (j + 1) (by omega)
        rw [show m.length + 2 * i + 1 + 1 = m.length + 2 * (i + 1) from by omega, Pi1.1] at n1
        rw [show m.length + 2 * i + 1 + 2 = m.length + 2 * (i + 1) + 1 from by omega, Pi1.2, hpe, show m.length + 2 * j + 2 = m.length + 2 * (j + 1) from by omega, Pj1.1] at n2
        exact crossed i j (by omega) n0 n1.symm n2
      · have := h.atEbig (m.length + 2 * i + 1 + 1) (by omega) (by omega)
        omega
    · have hpo : p = m.length + 2 * j + 1 := by omega
      rw [hpo, Pj.2] at n0
      have Pj1 := h.atP (j + 1) (by omega)
      rw [hpo, show m.length + 2 * j + 1 + 1 = m.length + 2 * (j + 1) from by omega, Pj1.1] at n1
      rw [hpo, show m.length + 2 * j + 1 + 2 = m.length + 2 * (j + 1) + 1 from by omega, Pj1.2] at n2
      by_cases hi1 : i + 1 < gap
      · have Pi1 := h.atP (i + 1) hi1
        rw [show m.length + 2 * i + 1 + 1 = m.length + 2 * (i + 1) from by omega, Pi1.1] at n1
        rw [show m.length + 2 * i + 1 + 2 = m.length + 2 * (i + 1) + 1 from by omega, Pi1.2] at n2
        omega
      · have := h.atEbig (m.length + 2 * i + 1 + 2) (by omega) (by omega)
        omega

theorem Win.stays (h : Win all m gap) (x : Nat) (hx : x < m.length + 2 * gap) : x + (findB all x).2 ≤ m.length + 2 * gap := by
  rcases findB_isM all x with h0 | ⟨m1, m2, m3, m4, m5, m6, m7⟩
  · omega
  · by_cases hm : x < m.length
    · -- a match in the first mark does not go beyond it
      by_cases hle : x + (findB all x).2 ≤ m.length
      · omega
      · have h7 := m7 (m.length - x) (by omega)
        have hb := (h.atM (x - (findB all x).1 + (m.length - x)) (by omega)).2
        have hz := (h.atP 0 (by have := h.gap1; omega)).1
        rw [h7, show x + (m.length - x) = m.length + 2 * 0 from by omega, hz] at hb
        omega
    · refine absurd (h.none (at_ := x) (p := x - (findB all x).1) (by omega) hx (by omega) ?_) (fun h => h)
      exact take4_eq (by omega) (by omega) (fun i hi => m7 i (by omega))

theorem Win.find (h : Win all m gap) : findB all (m.length + 2 * gap) = (m.length + 2 * gap, m.length) := by
  have hl := h.length
  have hlen := h.len
  have hfar := h.far
  have h30 := h.m30
  obtain ⟨D, hD⟩ : ∃ D, m.length + 2 * gap = D := ⟨_, rfl⟩
  have hsame : ∀ i, D + i < all.length → all.getD (0 + i) 0 = all.getD (D + i) 0 := fun i hi => by
    rw [Nat.zero_add, (h.atM i (by omega)).1, ← hD, h.atE i (by omega)]
  rw [hD]
  have hmem : 0 ∈ (posOf all D ((all.drop D).take 4)).reverse := mem_posOf.2 ⟨by omega, take4_eq (by omega) (by omega) (fun i hi => hsame i (by omega))⟩
  have hx0 : ext all D 0 127 4 = m.length := by rw [ext_full hsame 127 4 (by omega)]; omega
  have hge := fnd_ge all D _ (0, 0) (by decide) (posOf_desc all D _) 0 hmem (by omega)
  rw [hx0] at hge
  unfold findB
  rw [if_neg (by omega)]
  rcases fnd_near all D (posOf all D ((all.drop D).take 4)).reverse (0, 0) (posOf_desc _ _ _) with hf | ⟨p, hp, f1, f2, f3, f4⟩
  · rw [hf] at hge; exact absurd hge (by show ¬ m.length ≤ 0; omega)
  · rw [f2] at hge ⊢
    dsimp only at hge
    rw [mem_posOf] at hp
    have hM := isM_ext hp.1 f1 (by omega) hp.2
    obtain ⟨m1, m2, m3, m4, m5, m6, m7⟩ := hM
    have hle : ext all D p 127 4 = m.length := by omega
    have hp0 : p = 0 := by
      rcases Nat.eq_zero_or_pos p with h0 | h0
      · exact h0
      · exfalso
        rw [hle] at m7
        have big : ∀ i, i < m.length → 200 ≤ (all.getD (p + i) 0).toNat := fun i hi => by
          have := m7 i hi
          rw [show D - (D - p) = p from by omega] at this
          rw [this]
          exact h.atEbig (D + i) (by omega) (by omega)
        by_cases hpm : p < m.length
        · have := big (m.length - p) (by omega)
          have hz := (h.atP 0 (by have := h.gap1; omega)).1
          rw [show p + (m.length - p) = m.length + 2 * 0 from by omega, hz] at this
          omega
        · obtain ⟨j, hj⟩ : ∃ j, j = (p - m.length) / 2 := ⟨_, rfl⟩
          have Pj := (h.atP j (by omega)).2
          by_cases hpe : p = m.length + 2 * j
          · have := big 1 (by omega)
            rw [hpe, Pj] at this
            omega
          · have := big 0 (by omega)
            rw [Nat.add_zero, show p = m.length + 2 * j + 1 from by omega, Pj] at this
            omega
    rw [hle, hp0, Nat.sub_zero]

/-- The last token is the second mark. -/
theorem Win.last (h : Win all m gap) : ∃ l, prs (packB [] all).length (packB [] all) = some (l ++ [([], m.length + 2 * gap, m.length)]) := by
  have hl := h.length
  have hlen := h.len
  have hfar := h.far
  have h30 := h.m30
  rw [packB_pks]
  show ∃ l, prs (pks all all.length 0 []).length (pks all all.length 0 []) = _
  obtain ⟨X, w', f', hX, hp, hf⟩ := pks_reach all (m.length + 2 * gap) (by omega) all.length 0 [] (by omega) (by omega) (fun x _ hx => h.stays x hx)
  obtain ⟨f, rfl⟩ : ∃ f, f' = f + 1 := ⟨f' - 1, by omega⟩
  have hfin : ∀ f, pks all f (m.length + 2 * gap + m.length) [] = [] := fun f => by
    cases f with
    | zero => rfl
    | succ f => rw [pks, if_neg (by omega)]; rfl
  have hstep : pks all (f + 1) (m.length + 2 * gap) w' = flushB w' ++ (matB (m.length + 2 * gap) m.length ++ []) := by
    unfold pks
    rw [if_pos (by omega), h.find, if_neg (by dsimp only; omega)]
    dsimp only
    rw [hfin]
  rw [hp, hstep, ← List.append_assoc]
  obtain ⟨l, hlw⟩ := (hX.append (Whole.flush _ w' (Nat.le_refl _))).prs (rest := matB (m.length + 2 * gap) m.length ++ [])
  refine ⟨l, ?_⟩
  rw [hlw]
  have hn := nextE_mat (m.length + 2 * gap) m.length [] (by omega) hfar hlen (by omega)
  have h3 : (matB (m.length + 2 * gap) m.length ++ []).length = 2 + 1 := rfl
  rw [h3]
  conv => lhs; unfold prs
  rw [if_neg (by rw [h3]; decide), hn, if_neg (by simp)]
  rfl
end
end Go.Proofs.Ytcpiplfajgdohaa
