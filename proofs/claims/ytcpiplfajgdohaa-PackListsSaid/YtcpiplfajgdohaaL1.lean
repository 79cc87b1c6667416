/- What the packer writes is unpacked to the same bytes. Conditions: those of each theorem. -/
import Derived.Test.YtcpiplfajgdohaaT13
import Derived.Test.YtcpiplfajgdohaaT3
namespace Go.Proofs.Ytcpiplfajgdohaa

theorem chunk1_zero (ws : List UInt8) : chunk1 ws 0 = UInt8.ofNat (min 128 ws.length - 1) :: ws.take 128 := by simp [chunk1]
theorem chunk1_drop (ws : List UInt8) (i : Nat) (h : 128 ≤ ws.length) : chunk1 ws (128 + i) = chunk1 (ws.drop 128) i := by
  simp only [chunk1, List.length_drop, List.drop_drop]
  rw [show ws.length - (128 + i) = ws.length - 128 - i from by omega]
theorem flushB_nil : flushB [] = [] := rfl
theorem flushB_step (ws : List UInt8) (h : ws ≠ []) : flushB ws = (UInt8.ofNat (min 128 ws.length - 1) :: ws.take 128) ++ flushB (ws.drop 128) := by
  have hl : 0 < ws.length := List.length_pos_iff.2 h
  obtain ⟨j, hj⟩ : ∃ j, (ws.length + 127) / 128 = j + 1 := ⟨(ws.length + 127) / 128 - 1, by omega⟩
  unfold flushB
  rw [hj]
  have e1 : cks (j + 1) = 0 :: (cks j).map (128 + ·) := by
    unfold cks
    rw [List.range_succ_eq_map, List.map_cons, List.map_map, List.map_map]
    congr 1
    apply List.map_congr_left
    intro a _
    simp only [Function.comp]
    omega
  rw [e1]
  unfold litsB
  rw [List.flatMap_cons, chunk1_zero, List.flatMap_map]
  congr 1
  by_cases h128 : 128 ≤ ws.length
  · rw [show ((ws.drop 128).length + 127) / 128 = j from by rw [List.length_drop]; omega]
    simp only [chunk1_drop _ _ h128]
  · have : j = 0 := by omega
    subst this
    have h0 : (ws.drop 128).length = 0 := by rw [List.length_drop]; omega
    rw [h0]
    simp [cks]

/-- A run of literals at the beginning. -/
theorem nextE_lit (ls rest : List UInt8) (h1 : 0 < ls.length) (h2 : ls.length ≤ 128) : nextE (UInt8.ofNat (ls.length - 1) :: (ls ++ rest)) = ((ls, 0, 0), ls.length + 1, 0) := by
  have hx : (UInt8.ofNat (ls.length - 1)).toNat = ls.length - 1 := UInt8.toNat_ofNat_of_lt' (by show ls.length - 1 < 256; omega)
  unfold nextE
  dsimp only
  rw [hx, if_pos (by omega), if_neg (by rw [List.length_append]; omega)]
  have : ls.length - 1 + 1 = ls.length := by omega
  rw [this, List.take_left']
  · congr 2; omega
  · rfl
theorem nextE_mat (d l : Nat) (rest : List UInt8) (h1 : 1 ≤ d) (h2 : d ≤ 4096) (h3 : 4 ≤ l) (h4 : l ≤ 131) : nextE (matB d l ++ rest) = (([], d, l), 3, 0) := by
  have hx : (UInt8.ofNat (l + 124)).toNat = l + 124 := UInt8.toNat_ofNat_of_lt' (by show l + 124 < 256; omega)
  have hy : (UInt8.ofNat ((d - 1) / 256)).toNat = (d - 1) / 256 := UInt8.toNat_ofNat_of_lt' (by show (d - 1) / 256 < 256; omega)
  have hz : (UInt8.ofNat (d - 1)).toNat = (d - 1) % 256 := by simp [UInt8.toNat_ofNat']
  unfold matB
  simp only [List.cons_append, List.nil_append, nextE, hx, hy, hz]
  rw [if_neg (by omega), if_pos (by omega)]
  simp only [Prod.mk.injEq, and_true, true_and]
  constructor <;> omega

/-- Literals that wait are unpacked .. -/
theorem unp_flush (most dl : Nat) (rest : List UInt8) : ∀ (m : Nat) (ws : List UInt8), ws.length ≤ m → ∀ (f at_ : Nat) (out : List UInt8), (flushB ws ++ rest).length ≤ f → out.length - dl + ws.length ≤ most →
    ∃ at', unp most dl f at_ (flushB ws ++ rest) out = unp most dl rest.length at' rest (out ++ ws)
  | 0, ws, hm, f, at_, out, hf, hmo => by
    have : ws = [] := List.eq_nil_of_length_eq_zero (by omega)
    subst this
    rw [flushB_nil, List.nil_append, List.append_nil]
    rw [flushB_nil, List.nil_append] at hf
    exact ⟨at_, unp_more most dl f rest.length at_ rest out hf (Nat.le_refl _)⟩
  | m + 1, ws, hm, f, at_, out, hf, hmo => by
    by_cases hw : ws = []
    · subst hw
      rw [flushB_nil, List.nil_append, List.append_nil]
      rw [flushB_nil, List.nil_append] at hf
      exact ⟨at_, unp_more most dl f rest.length at_ rest out hf (Nat.le_refl _)⟩
    · have hl : 0 < ws.length := List.length_pos_iff.2 hw
      rw [flushB_step ws hw] at hf ⊢
      have hlt : (ws.take 128).length = min 128 ws.length := List.length_take
      have hn := nextE_lit (ws.take 128) (flushB (ws.drop 128) ++ rest) (by omega) (by omega)
      rw [hlt] at hn
      rw [List.append_assoc, List.cons_append] at hf ⊢
      obtain ⟨f, rfl⟩ : ∃ f', f = f' + 1 := ⟨f - 1, by simp at hf; omega⟩
      rw [unp, if_neg (by simp), hn]
      simp only [ne_eq, not_true_eq_false, if_false, Nat.not_lt_zero, Nat.add_zero]
      rw [if_neg (by omega)]
      have hd : List.drop (min 128 ws.length + 1) (UInt8.ofNat (min 128 ws.length - 1) :: (ws.take 128 ++ (flushB (ws.drop 128) ++ rest))) = flushB (ws.drop 128) ++ rest := by
        rw [List.drop_succ_cons, ← hlt, List.drop_left]
      rw [hd]
      show ∃ at', unp most dl f _ _ (copyM 0 0 (out ++ ws.take 128)) = _
      rw [copyM]
      obtain ⟨at', h⟩ := unp_flush most dl rest m (ws.drop 128) (by rw [List.length_drop]; omega) f (at_ + (min 128 ws.length + 1)) (out ++ ws.take 128) (by simp only [List.length_cons, List.length_append] at hf ⊢; omega) (by rw [List.length_append, hlt, List.length_drop]; omega)
      refine ⟨at', h.trans ?_⟩
      rw [List.append_assoc, List.take_append_drop]
/-- .. or are too many. -/
theorem unp_flush_long (most dl : Nat) (rest : List UInt8) : ∀ (m : Nat) (ws : List UInt8), ws.length ≤ m → ∀ (f at_ : Nat) (out : List UInt8), (flushB ws ++ rest).length ≤ f → out.length - dl ≤ most → dl ≤ out.length → most < out.length - dl + ws.length →
    ∃ at', unp most dl f at_ (flushB ws ++ rest) out = (none, at', 5)
  | 0, ws, hm, f, at_, out, hf, h1, h2, h3 => by omega
  | m + 1, ws, hm, f, at_, out, hf, h1, h2, h3 => by
    have hw : ws ≠ [] := by rintro rfl; simp at h3; omega
    have hl : 0 < ws.length := List.length_pos_iff.2 hw
    rw [flushB_step ws hw] at hf ⊢
    have hlt : (ws.take 128).length = min 128 ws.length := List.length_take
    have hn := nextE_lit (ws.take 128) (flushB (ws.drop 128) ++ rest) (by omega) (by omega)
    rw [hlt] at hn
    rw [List.append_assoc, List.cons_append] at hf ⊢
    obtain ⟨f, rfl⟩ : ∃ f', f = f' + 1 := ⟨f - 1, by simp at hf; omega⟩
    rw [unp, if_neg (by simp), hn]
    simp only [ne_eq, not_true_eq_false, if_false, Nat.not_lt_zero, Nat.add_zero]
    by_cases hlong : most < out.length - dl + (ws.take 128).length
    · rw [if_pos hlong]
      exact ⟨_, rfl⟩
    · rw [if_neg hlong]
      have hd : List.drop (min 128 ws.length + 1) (UInt8.ofNat (min 128 ws.length - 1) :: (ws.take 128 ++ (flushB (ws.drop 128) ++ rest))) = flushB (ws.drop 128) ++ rest := by
        rw [List.drop_succ_cons, ← hlt, List.drop_left]
      rw [hd]
      show ∃ at', unp most dl f _ _ (copyM 0 0 (out ++ ws.take 128)) = _
      rw [copyM]
      exact unp_flush_long most dl rest m (ws.drop 128) (by rw [List.length_drop]; omega) f (at_ + (min 128 ws.length + 1)) (out ++ ws.take 128) (by simp only [List.length_cons, List.length_append] at hf ⊢; omega) (by rw [List.length_append]; omega) (by rw [List.length_append]; omega) (by rw [List.length_append, hlt, List.length_drop]; omega)

/-- What find says of a match. -/
theorem ext_spec (all : List UInt8) (at_ p : Nat) : ∀ f n i, n ≤ i → i < ext all at_ p f n → at_ + i < all.length ∧ all.getD (p + i) 0 = all.getD (at_ + i) 0
  | 0, n, i, h1, h2 => by simp [ext] at h2; omega
  | f + 1, n, i, h1, h2 => by
    unfold ext at h2
    split at h2
    · rename_i hc
      rcases Nat.eq_or_lt_of_le h1 with h | h
      · subst h; exact hc
      · exact ext_spec all at_ p f (n + 1) i h h2
    · omega
/-- d, n is a match at place at_. -/
def IsM (all : List UInt8) (at_ d n : Nat) : Prop := 1 ≤ d ∧ d ≤ at_ ∧ d ≤ 4096 ∧ 4 ≤ n ∧ n ≤ 131 ∧ at_ + n ≤ all.length ∧ ∀ i, i < n → all.getD (at_ - d + i) 0 = all.getD (at_ + i) 0
theorem getD_of_take {all : List UInt8} {p q n i : Nat} (h : (all.drop p).take n = (all.drop q).take n) (hi : i < n) : all.getD (p + i) 0 = all.getD (q + i) 0 := by
  have h1 := congrArg (fun l : List UInt8 => l[i]?) h
  simp only [List.getElem?_take, hi, if_true, List.getElem?_drop] at h1
  rw [List.getD_eq_getElem?_getD, List.getD_eq_getElem?_getD, h1]
theorem isM_ext {all : List UInt8} {at_ p : Nat} (hp : p < at_) (hw : at_ - p ≤ 4096) (hl : at_ + 4 ≤ all.length) (h4 : (all.drop p).take 4 = (all.drop at_).take 4) : IsM all at_ (at_ - p) (ext all at_ p 127 4) := by
  have hb := ext_bound all at_ p 127 4
  have hs := ext_spec all at_ p 127 4
  refine ⟨by omega, by omega, hw, hb.1, by omega, ?_, fun i hi => ?_⟩
  · rcases Nat.eq_or_lt_of_le hb.1 with h | h
    · rw [← h]; omega
    · have := (hs (ext all at_ p 127 4 - 1) (by omega) (by omega)).1
      omega
  · rw [show at_ - (at_ - p) = p from by omega]
    by_cases h : i < 4
    · exact getD_of_take h4 h
    · exact (hs i (by omega) hi).2
theorem fnd_isM {all : List UInt8} {at_ : Nat} (hl : at_ + 4 ≤ all.length) : ∀ (ps : List Nat) (s : Nat × Nat), (∀ p ∈ ps, p < at_ ∧ (all.drop p).take 4 = (all.drop at_).take 4) → (s.2 = 0 ∨ IsM all at_ s.1 s.2) →
    (fnd all at_ ps s).2 = 0 ∨ IsM all at_ (fnd all at_ ps s).1 (fnd all at_ ps s).2
  | [], s, _, hs => hs
  | p :: ps, s, hp, hs => by
    unfold fnd
    split
    · exact hs
    · refine fnd_isM hl ps _ (fun q hq => hp q (by simp [hq])) ?_
      unfold fstep
      split
      · exact .inr (isM_ext (hp p (by simp)).1 (by omega) hl (hp p (by simp)).2)
      · exact hs
theorem findB_isM (all : List UInt8) (at_ : Nat) : (findB all at_).2 = 0 ∨ IsM all at_ (findB all at_).1 (findB all at_).2 := by
  unfold findB
  split
  · exact .inl rfl
  · refine fnd_isM (by omega) _ _ (fun p hp => ?_) (.inl rfl)
    rw [List.mem_reverse] at hp
    unfold posOf at hp
    rw [List.mem_filter, List.mem_range] at hp
    exact ⟨hp.1, by simpa using hp.2⟩

theorem take_succ_getD (all : List UInt8) (n : Nat) (h : n < all.length) : all.take (n + 1) = all.take n ++ [all.getD n 0] := by
  rw [List.take_add_one, List.getElem?_eq_getElem h]
  simp [List.getD_eq_getElem?_getD, List.getElem?_eq_getElem h]
/-- A match is copied. -/
theorem copyM_match (D all : List UInt8) (d : Nat) : ∀ (n at_ : Nat), 1 ≤ d → d ≤ at_ → at_ + n ≤ all.length → (∀ i, i < n → all.getD (at_ - d + i) 0 = all.getD (at_ + i) 0) → copyM d n (D ++ all.take at_) = D ++ all.take (at_ + n)
  | 0, at_, _, _, _, _ => rfl
  | n + 1, at_, h1, h2, h3, h4 => by
    rw [copyM]
    have hlen : (D ++ all.take at_).length = D.length + at_ := by rw [List.length_append, List.length_take]; omega
    have hg : (D ++ all.take at_).getD ((D ++ all.take at_).length - d) 0 = all.getD at_ 0 := by
      have h0 := h4 0 (by omega)
      rw [Nat.add_zero, Nat.add_zero] at h0
      rw [hlen, ← h0, List.getD_eq_getElem?_getD, List.getD_eq_getElem?_getD, List.getElem?_append_right (by omega), List.getElem?_take, if_pos (by omega)]
      congr 2
      omega
    rw [hg, List.append_assoc, ← take_succ_getD all at_ (by omega), show at_ + (n + 1) = at_ + 1 + n from by omega]
    refine copyM_match D all d n (at_ + 1) h1 (by omega) (by omega) (fun i hi => ?_)
    have := h4 (i + 1) (by omega)
    rw [show at_ + 1 - d + i = at_ - d + (i + 1) from by omega, show at_ + 1 + i = at_ + (i + 1) from by omega]
    exact this

/-- What the packer writes behind what is written. -/
def pks (all : List UInt8) : Nat → Nat → List UInt8 → List UInt8
  | 0, _, wait => flushB wait
  | f + 1, at_, wait =>
    if at_ < all.length then
      if (findB all at_).2 < 4 then pks all f (at_ + 1) (wait ++ [all.getD at_ 0])
      else flushB wait ++ (matB (findB all at_).1 (findB all at_).2 ++ pks all f (at_ + (findB all at_).2) [])
    else flushB wait
theorem pk_pks (all : List UInt8) : ∀ f at_ out wait, pk all f at_ out wait = out ++ pks all f at_ wait
  | 0, at_, out, wait => rfl
  | f + 1, at_, out, wait => by
    unfold pk pks
    split
    · split
      · exact pk_pks all f _ _ _
      · rw [pk_pks all f]; simp [List.append_assoc]
    · rfl

/-- The packed form is unpacked again. -/
theorem unp_pks (most : Nat) (D all : List UInt8) (a0 : Nat) (ha0 : a0 ≤ all.length) (hmost : all.length - a0 ≤ most) : ∀ (f at_ : Nat) (wait : List UInt8), a0 + wait.length ≤ at_ → at_ ≤ all.length → all.length ≤ at_ + f →
    all.take at_ = all.take (at_ - wait.length) ++ wait → ∀ (g off : Nat), (pks all f at_ wait).length ≤ g →
    unp most (D.length + a0) g off (pks all f at_ wait) (D ++ all.take (at_ - wait.length)) = (some (D ++ all), 0, 0) := by
  have fin : ∀ (at_ : Nat) (wait : List UInt8), a0 + wait.length ≤ at_ → at_ = all.length → all.take at_ = all.take (at_ - wait.length) ++ wait → ∀ (g off : Nat), (flushB wait).length ≤ g →
      unp most (D.length + a0) g off (flushB wait) (D ++ all.take (at_ - wait.length)) = (some (D ++ all), 0, 0) := by
    intro at_ wait h1 h2 h4 g off hg
    obtain ⟨at', h⟩ := unp_flush most (D.length + a0) [] wait.length wait (Nat.le_refl _) g off (D ++ all.take (at_ - wait.length)) (by simpa using hg) (by rw [List.length_append, List.length_take]; omega)
    rw [List.append_nil] at h
    rw [h, List.append_assoc, ← h4, h2, List.take_length]
    rfl
  intro f
  induction f with
  | zero =>
    intro at_ wait h1 h2 h3 h4 g off hg
    exact fin at_ wait h1 (by omega) h4 g off hg
  | succ f ih =>
    intro at_ wait h1 h2 h3 h4 g off hg
    unfold pks at hg ⊢
    by_cases hlt : at_ < all.length
    · rw [if_pos hlt] at hg ⊢
      by_cases hn : (findB all at_).2 < 4
      · rw [if_pos hn] at hg ⊢
        have hsub : at_ + 1 - (wait ++ [all.getD at_ 0]).length = at_ - wait.length := by rw [List.length_append]; simp
        have := ih (at_ + 1) (wait ++ [all.getD at_ 0]) (by rw [List.length_append]; simp; omega) (by omega) (by omega) (by rw [hsub, take_succ_getD all at_ hlt, h4, List.append_assoc]) g off hg
        rw [hsub] at this
        exact this
      · rw [if_neg hn] at hg ⊢
        have hm := (findB_isM all at_).resolve_left (by omega)
        obtain ⟨d, n, hdn⟩ : ∃ d n, findB all at_ = (d, n) := ⟨_, _, rfl⟩
        rw [hdn] at hg hm hn ⊢
        dsimp only at hg hm hn ⊢
        obtain ⟨m1, m2, m3, m4, m5, m6, m7⟩ := hm
        obtain ⟨at', h⟩ := unp_flush most (D.length + a0) (matB d n ++ pks all f (at_ + n) []) wait.length wait (Nat.le_refl _) g off (D ++ all.take (at_ - wait.length)) hg (by rw [List.length_append, List.length_take]; omega)
        rw [h, List.append_assoc, ← h4]
        have hl : (matB d n ++ pks all f (at_ + n) []).length = (pks all f (at_ + n) []).length + 2 + 1 := by rw [List.length_append]; simp [matB]; omega
        have hlen : (D ++ all.take at_).length = D.length + at_ := by rw [List.length_append, List.length_take]; omega
        rw [hl, unp, if_neg (by simp [matB]), nextE_mat d n _ m1 m3 m4 m5]
        simp only [ne_eq, not_true_eq_false, if_false, List.length_nil, Nat.add_zero]
        rw [if_neg (by rw [hlen]; omega), if_neg (by rw [hlen]; omega), List.append_nil]
        rw [copyM_match D all d n at_ m1 m2 m6 m7]
        have hdr : (matB d n ++ pks all f (at_ + n) []).drop 3 = pks all f (at_ + n) [] := rfl
        rw [hdr]
        exact ih (at_ + n) [] (by simp; omega) m6 (by omega) (by simp) _ _ (by omega)
    · rw [if_neg hlt] at hg ⊢
      exact fin at_ wait h1 (by omega) h4 g off hg

/-- .. and with less permitted, it is too long. -/
theorem unp_pks_long (most : Nat) (D all : List UInt8) (a0 : Nat) (ha0 : a0 ≤ all.length) (hmost : most < all.length - a0) : ∀ (f at_ : Nat) (wait : List UInt8), a0 + wait.length ≤ at_ → at_ ≤ all.length → all.length ≤ at_ + f →
    all.take at_ = all.take (at_ - wait.length) ++ wait → at_ - wait.length - a0 ≤ most → ∀ (g off : Nat), (pks all f at_ wait).length ≤ g →
    ∃ at', unp most (D.length + a0) g off (pks all f at_ wait) (D ++ all.take (at_ - wait.length)) = (none, at', 5) := by
  have fin : ∀ (at_ : Nat) (wait : List UInt8), a0 + wait.length ≤ at_ → at_ = all.length → at_ - wait.length - a0 ≤ most → all.take at_ = all.take (at_ - wait.length) ++ wait → ∀ (g off : Nat), (flushB wait).length ≤ g →
      ∃ at', unp most (D.length + a0) g off (flushB wait) (D ++ all.take (at_ - wait.length)) = (none, at', 5) := by
    intro at_ wait h1 h2 h3 h4 g off hg
    have hlen : (D ++ all.take (at_ - wait.length)).length = D.length + (at_ - wait.length) := by rw [List.length_append, List.length_take]; omega
    have := unp_flush_long most (D.length + a0) [] wait.length wait (Nat.le_refl _) g off (D ++ all.take (at_ - wait.length)) (by simpa using hg) (by rw [hlen]; omega) (by rw [hlen]; omega) (by rw [hlen]; omega)
    rwa [List.append_nil] at this
  intro f
  induction f with
  | zero =>
    intro at_ wait h1 h2 h3 h4 h5 g off hg
    exact fin at_ wait h1 (by omega) h5 h4 g off hg
  | succ f ih =>
    intro at_ wait h1 h2 h3 h4 h5 g off hg
    unfold pks at hg ⊢
    by_cases hlt : at_ < all.length
    · rw [if_pos hlt] at hg ⊢
      by_cases hn : (findB all at_).2 < 4
      · rw [if_pos hn] at hg ⊢
        have hsub : at_ + 1 - (wait ++ [all.getD at_ 0]).length = at_ - wait.length := by rw [List.length_append]; simp
        have := ih (at_ + 1) (wait ++ [all.getD at_ 0]) (by rw [List.length_append]; simp; omega) (by omega) (by omega) (by rw [hsub, take_succ_getD all at_ hlt, h4, List.append_assoc]) (by rw [hsub]; exact h5) g off hg
        rw [hsub] at this
        exact this
      · rw [if_neg hn] at hg ⊢
        have hm := (findB_isM all at_).resolve_left (by omega)
        obtain ⟨d, n, hdn⟩ : ∃ d n, findB all at_ = (d, n) := ⟨_, _, rfl⟩
        rw [hdn] at hg hm hn ⊢
        dsimp only at hg hm hn ⊢
        obtain ⟨m1, m2, m3, m4, m5, m6, m7⟩ := hm
        have hlen0 : (D ++ all.take (at_ - wait.length)).length = D.length + (at_ - wait.length) := by rw [List.length_append, List.length_take]; omega
        by_cases hfl : at_ - a0 ≤ most
        · obtain ⟨at', h⟩ := unp_flush most (D.length + a0) (matB d n ++ pks all f (at_ + n) []) wait.length wait (Nat.le_refl _) g off (D ++ all.take (at_ - wait.length)) hg (by rw [hlen0]; omega)
          rw [h, List.append_assoc, ← h4]
          have hl : (matB d n ++ pks all f (at_ + n) []).length = (pks all f (at_ + n) []).length + 2 + 1 := by rw [List.length_append]; simp [matB]; omega
          have hlen : (D ++ all.take at_).length = D.length + at_ := by rw [List.length_append, List.length_take]; omega
          rw [hl, unp, if_neg (by simp [matB]), nextE_mat d n _ m1 m3 m4 m5]
          simp only [ne_eq, not_true_eq_false, if_false, List.length_nil, Nat.add_zero]
          rw [if_neg (by rw [hlen]; omega)]
          by_cases hfl2 : at_ + n - a0 ≤ most
          · rw [if_neg (by rw [hlen]; omega), List.append_nil]
            rw [copyM_match D all d n at_ m1 m2 m6 m7]
            have hdr : (matB d n ++ pks all f (at_ + n) []).drop 3 = pks all f (at_ + n) [] := rfl
            rw [hdr]
            exact ih (at_ + n) [] (by simp; omega) m6 (by omega) (by simp) (by simpa using hfl2) _ _ (by omega)
          · rw [if_pos (by rw [hlen]; omega)]
            exact ⟨_, rfl⟩
        · exact unp_flush_long most (D.length + a0) (matB d n ++ pks all f (at_ + n) []) wait.length wait (Nat.le_refl _) g off (D ++ all.take (at_ - wait.length)) hg (by rw [hlen0]; omega) (by rw [hlen0]; omega) (by rw [hlen0]; omega)
    · rw [if_neg hlt] at hg ⊢
      exact fin at_ wait h1 (by omega) h5 h4 g off hg

theorem packB_pks (dict b : List UInt8) : packB dict b = pks (dict.drop (dict.length - 4096) ++ b) b.length (dict.length - (dict.length - 4096)) [] := by
  rw [packB, pk_pks, List.nil_append]
theorem unp_packB (most : Nat) (dict b : List UInt8) (h : b.length ≤ most) : unp most dict.length (packB dict b).length 0 (packB dict b) dict = (some (dict ++ b), 0, 0) := by
  have hk : dict.length - 4096 ≤ dict.length := by omega
  obtain ⟨k, hkk⟩ : ∃ k, dict.length - 4096 = k := ⟨_, rfl⟩
  have hl : (dict.drop k ++ b).length = dict.length - k + b.length := by rw [List.length_append, List.length_drop]
  have := unp_pks most (dict.take k) (dict.drop k ++ b) (dict.length - k) (by omega) (by omega) b.length (dict.length - k) [] (by simp) (by omega) (by omega) (by simp) (packB dict b).length 0 (by rw [packB_pks, hkk]; exact Nat.le_refl _)
  rw [packB_pks, hkk]
  rw [packB_pks, hkk] at this
  simp only [List.length_nil, Nat.sub_zero] at this
  rw [List.take_left' (by rw [List.length_drop]), List.take_append_drop, ← List.append_assoc, List.take_append_drop, List.length_take, show min k dict.length + (dict.length - k) = dict.length from by omega] at this
  exact this
theorem unp_packB_long (most : Nat) (dict b : List UInt8) (h : most < b.length) : ∃ at', unp most dict.length (packB dict b).length 0 (packB dict b) dict = (none, at', 5) := by
  have hk : dict.length - 4096 ≤ dict.length := by omega
  obtain ⟨k, hkk⟩ : ∃ k, dict.length - 4096 = k := ⟨_, rfl⟩
  have hl : (dict.drop k ++ b).length = dict.length - k + b.length := by rw [List.length_append, List.length_drop]
  have := unp_pks_long most (dict.take k) (dict.drop k ++ b) (dict.length - k) (by omega) (by omega) b.length (dict.length - k) [] (by simp) (by omega) (by omega) (by simp) (by simp) (packB dict b).length 0 (by rw [packB_pks, hkk]; exact Nat.le_refl _)
  rw [packB_pks, hkk]
  rw [packB_pks, hkk] at this
  simp only [List.length_nil, Nat.sub_zero] at this
  rw [List.take_left' (by rw [List.length_drop]), List.take_append_drop, List.length_take, show min k dict.length + (dict.length - k) = dict.length from by omega] at this
  exact this
theorem pks_le (all : List UInt8) : ∀ f at_ wait, (pks all f at_ wait).length ≤ 2 * (wait.length + (all.length - at_))
  | 0, at_, wait => by
    unfold pks
    rw [flushB_length]; omega
  | f + 1, at_, wait => by
    unfold pks
    split
    · split
      · have := pks_le all f (at_ + 1) (wait ++ [all.getD at_ 0])
        rw [List.length_append] at this
        simp only [List.length_cons, List.length_nil] at this
        omega
      · have h1 := pks_le all f (at_ + (findB all at_).2) []
        have hm := (findB_isM all at_).resolve_left (by omega)
        obtain ⟨m1, m2, m3, m4, m5, m6, m7⟩ := hm
        rw [List.length_append, List.length_append, flushB_length, show (matB (findB all at_).1 (findB all at_).2).length = 3 from rfl]
        simp only [List.length_nil] at h1
        omega
    · rw [flushB_length]; omega
theorem packB_le (dict b : List UInt8) : (packB dict b).length ≤ 2 * b.length := by
  rw [packB_pks]
  refine Nat.le_trans (pks_le _ _ _ _) ?_
  rw [List.length_append, List.length_drop]
  simp only [List.length_nil]
  omega
end Go.Proofs.Ytcpiplfajgdohaa
