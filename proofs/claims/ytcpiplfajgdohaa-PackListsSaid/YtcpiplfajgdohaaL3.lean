/- The longest match that find answers, the bound of a packed form, and the packed form of repeated bytes. Conditions: those of each theorem. -/
import Derived.Test.YtcpiplfajgdohaaL1
namespace Go.Proofs.Ytcpiplfajgdohaa

/- What find answers, in words. -/
theorem fstep_ge (all : List UInt8) (at_ : Nat) (s : Nat × Nat) (p : Nat) : s.2 ≤ (fstep all at_ s p).2 ∧ ext all at_ p 127 4 ≤ (fstep all at_ s p).2 := by
  unfold fstep
  split
  · dsimp only; omega
  · omega
theorem fstep_le (all : List UInt8) (at_ : Nat) (s : Nat × Nat) (p : Nat) (h : s.2 ≤ 131) : (fstep all at_ s p).2 ≤ 131 := by
  have := ext_bound all at_ p 127 4
  unfold fstep
  split
  · dsimp only; omega
  · omega
theorem fnd_mono (all : List UInt8) (at_ : Nat) : ∀ (ps : List Nat) (s : Nat × Nat), s.2 ≤ (fnd all at_ ps s).2
  | [], s => Nat.le_refl _
  | p :: ps, s => by
    unfold fnd
    split
    · exact Nat.le_refl _
    · exact Nat.le_trans (fstep_ge all at_ s p).1 (fnd_mono all at_ ps _)
theorem fnd_ge (all : List UInt8) (at_ : Nat) : ∀ (ps : List Nat) (s : Nat × Nat), s.2 ≤ 131 → ps.Pairwise (· > ·) → ∀ p ∈ ps, at_ - p ≤ 4096 → ext all at_ p 127 4 ≤ (fnd all at_ ps s).2
  | [], s, _, _, p, hp, _ => by cases hp
  | q :: ps, s, hs, hd, p, hp, hw => by
    have hb := ext_bound all at_ p 127 4
    rw [List.pairwise_cons] at hd
    unfold fnd
    split
    · rename_i hc
      rcases List.mem_cons.1 hp with rfl | hp'
      · omega
      · have := hd.1 p hp'
        omega
    · rcases List.mem_cons.1 hp with rfl | hp'
      · exact Nat.le_trans (fstep_ge all at_ s p).2 (fnd_mono all at_ ps _)
      · exact fnd_ge all at_ ps _ (fstep_le all at_ s q hs) hd.2 p hp' hw
theorem fnd_near (all : List UInt8) (at_ : Nat) : ∀ (ps : List Nat) (s : Nat × Nat), ps.Pairwise (· > ·) →
    fnd all at_ ps s = s ∨ ∃ p ∈ ps, at_ - p ≤ 4096 ∧ fnd all at_ ps s = (at_ - p, ext all at_ p 127 4) ∧ s.2 < ext all at_ p 127 4 ∧ ∀ p' ∈ ps, p < p' → ext all at_ p' 127 4 < ext all at_ p 127 4
  | [], s, _ => .inl rfl
  | q :: ps, s, hd => by
    rw [List.pairwise_cons] at hd
    unfold fnd
    split
    · exact .inl rfl
    · rename_i hc
      have hg := fstep_ge all at_ s q
      rcases fnd_near all at_ ps (fstep all at_ s q) hd.2 with h | ⟨p, hp, h1, h2, h3, h4⟩
      · rw [h]
        by_cases hx : s.2 < ext all at_ q 127 4
        · refine .inr ⟨q, by simp, by omega, by rw [fstep, if_pos hx], hx, fun p' hp' hlt => ?_⟩
          rcases List.mem_cons.1 hp' with rfl | hp''
          · omega
          · have := hd.1 p' hp''
            omega
        · exact .inl (by rw [fstep, if_neg hx])
      · refine .inr ⟨p, by simp [hp], h1, h2, by omega, fun p' hp' hlt => ?_⟩
        rcases List.mem_cons.1 hp' with rfl | hp''
        · omega
        · exact h4 p' hp'' hlt

theorem posOf_desc (all : List UInt8) (kn : Nat) (k : List UInt8) : (posOf all kn k).reverse.Pairwise (· > ·) := by
  rw [List.pairwise_reverse]
  unfold posOf
  exact List.Pairwise.filter _ List.pairwise_lt_range
theorem mem_posOf {all : List UInt8} {kn : Nat} {k : List UInt8} {p : Nat} : p ∈ (posOf all kn k).reverse ↔ p < kn ∧ (all.drop p).take 4 = k := by
  rw [List.mem_reverse]
  unfold posOf
  rw [List.mem_filter, List.mem_range]
  simp

/-- A place that goes on alike to the end, or to the greatest length. -/
theorem ext_full {all : List UInt8} {at_ p : Nat} (h : ∀ i, at_ + i < all.length → all.getD (p + i) 0 = all.getD (at_ + i) 0) : ∀ f n, at_ + n ≤ all.length → ext all at_ p f n = min (n + f) (all.length - at_)
  | 0, n, hn => by unfold ext; omega
  | f + 1, n, hn => by
    unfold ext
    by_cases hlt : at_ + n < all.length
    · rw [if_pos ⟨hlt, h n hlt⟩, ext_full h f (n + 1) (by omega)]
      congr 1
      omega
    · rw [if_neg (fun hc => hlt hc.1)]
      omega
theorem take4_eq {all : List UInt8} {p q : Nat} (hpq : p ≤ q) (hl : q + 4 ≤ all.length) (h : ∀ i, i < 4 → all.getD (p + i) 0 = all.getD (q + i) 0) : (all.drop p).take 4 = (all.drop q).take 4 := by
  apply List.ext_getElem?
  intro i
  rw [List.getElem?_take, List.getElem?_take]
  split
  · rename_i hi
    have := h i hi
    rw [List.getElem?_drop, List.getElem?_drop]
    rw [List.getD_eq_getElem?_getD, List.getD_eq_getElem?_getD, List.getElem?_eq_getElem (by omega), List.getElem?_eq_getElem (by omega)] at this
    simp only [Option.getD_some] at this
    rw [List.getElem?_eq_getElem (by omega), List.getElem?_eq_getElem (by omega), this]
  · rfl

/- The bound. -/
theorem pks_bound (all : List UInt8) : ∀ f at_ wait, all.length ≤ at_ + f → (pks all f at_ wait).length ≤ (wait.length + (all.length - at_)) + (wait.length + (all.length - at_) + 127) / 128
  | 0, at_, wait, _ => by
    unfold pks
    rw [flushB_length]; omega
  | f + 1, at_, wait, hf => by
    unfold pks
    split
    · split
      · have := pks_bound all f (at_ + 1) (wait ++ [all.getD at_ 0]) (by omega)
        rw [List.length_append] at this
        simp only [List.length_cons, List.length_nil] at this
        rw [show wait.length + (0 + 1) + (all.length - (at_ + 1)) = wait.length + (all.length - at_) from by omega] at this
        exact this
      · have hm := (findB_isM all at_).resolve_left (by omega)
        obtain ⟨m1, m2, m3, m4, m5, m6, m7⟩ := hm
        have h1 := pks_bound all f (at_ + (findB all at_).2) [] (by omega)
        rw [List.length_append, List.length_append, flushB_length, show (matB (findB all at_).1 (findB all at_).2).length = 3 from rfl]
        simp only [List.length_nil] at h1
        omega
    · rw [flushB_length]; omega
theorem packB_bound (dict b : List UInt8) : (packB dict b).length ≤ b.length + (b.length + 127) / 128 := by
  rw [packB_pks]
  refine Nat.le_trans (pks_bound _ _ _ _ ?_) ?_
  · rw [List.length_append, List.length_drop]
    omega
  · rw [List.length_append, List.length_drop]
    simp only [List.length_nil]
    omega

/- Repeated bytes. -/
theorem pks_tail (all : List UInt8) : ∀ f at_ wait, all.length ≤ at_ + f → all.length < at_ + 4 → (pks all f at_ wait).length = (wait.length + (all.length - at_)) + (wait.length + (all.length - at_) + 127) / 128
  | 0, at_, wait, _, _ => by
    unfold pks
    rw [flushB_length]; omega
  | f + 1, at_, wait, hf, h4 => by
    unfold pks
    split
    · rw [if_pos (by unfold findB; rw [if_pos h4]; decide)]
      have := pks_tail all f (at_ + 1) (wait ++ [all.getD at_ 0]) (by omega) (by omega)
      rw [List.length_append] at this
      simp only [List.length_cons, List.length_nil] at this
      rw [show wait.length + (0 + 1) + (all.length - (at_ + 1)) = wait.length + (all.length - at_) from by omega] at this
      exact this
    · rw [flushB_length]; omega

/-- The same bytes q further. -/
def Per (q : Nat) (all : List UInt8) : Prop := ∀ i, q + i < all.length → all.getD i 0 = all.getD (q + i) 0
theorem findB_per {all : List UInt8} {q at_ : Nat} (hp : Per q all) (h1 : 1 ≤ q) (h2 : q ≤ 4096) (h3 : q ≤ at_) (h4 : at_ + 4 ≤ all.length) : (findB all at_).2 = min 131 (all.length - at_) := by
  have hx : ∀ i, at_ + i < all.length → all.getD (at_ - q + i) 0 = all.getD (at_ + i) 0 := fun i hi => by
    rw [hp (at_ - q + i) (by omega), show q + (at_ - q + i) = at_ + i from by omega]
  have hge : min 131 (all.length - at_) ≤ (findB all at_).2 := by
    have hmem : at_ - q ∈ (posOf all at_ ((all.drop at_).take 4)).reverse := mem_posOf.2 ⟨by omega, take4_eq (by omega) h4 (fun i hi => hx i (by omega))⟩
    have := fnd_ge all at_ _ (0, 0) (by decide) (posOf_desc all at_ _) (at_ - q) hmem (by omega)
    rw [ext_full hx 127 4 h4] at this
    unfold findB
    rw [if_neg (by omega)]
    omega
  have hm := (findB_isM all at_).resolve_left (by omega)
  obtain ⟨m1, m2, m3, m4, m5, m6, m7⟩ := hm
  omega
theorem pks_per2 {all : List UInt8} {q : Nat} (hp : Per q all) (h1 : 1 ≤ q) (h2 : q ≤ 4096) : ∀ (f at_ : Nat) (wait : List UInt8), q ≤ at_ → at_ ≤ all.length → all.length ≤ at_ + f → wait.length ≤ 100 →
    (pks all f at_ wait).length ≤ wait.length + (wait.length + 127) / 128 + 3 * ((all.length - at_) / 131) + (if (all.length - at_) % 131 = 0 then 0 else 4)
  | 0, at_, wait, _, hat, hf, hw => by
    unfold pks
    rw [flushB_length]
    omega
  | f + 1, at_, wait, hq, hat, hf, hw => by
    by_cases h4 : all.length < at_ + 4
    · rw [pks_tail all (f + 1) at_ wait hf h4]
      split <;> omega
    · unfold pks
      have hfd := findB_per hp h1 h2 hq (by omega)
      rw [if_pos (by omega), if_neg (by omega), hfd]
      have h := pks_per2 hp h1 h2 f (at_ + min 131 (all.length - at_)) [] (by omega) (by omega) (by omega) (by simp)
      rw [List.length_append, List.length_append, flushB_length, show ∀ d l, (matB d l).length = 3 from fun _ _ => rfl]
      simp only [List.length_nil] at h
      split at h <;> split <;> omega
theorem pks_per1 {all : List UInt8} {q : Nat} (hp : Per q all) (h1 : 1 ≤ q) (h2 : q ≤ 20) : ∀ (f at_ : Nat) (wait : List UInt8), at_ ≤ q → wait.length ≤ at_ → at_ ≤ all.length → all.length ≤ at_ + f → 1 ≤ all.length →
    (pks all f at_ wait).length ≤ wait.length + 1 + (q - at_) + 2 + 3 * ((all.length - 1) / 131) + 4
  | 0, at_, wait, _, _, hat, hf, hl => by
    unfold pks
    rw [flushB_length]
    omega
  | f + 1, at_, wait, hq, hw, hat, hf, hl => by
    by_cases he : at_ = q
    · have := pks_per2 hp h1 (by omega) (f + 1) at_ wait (by omega) hat hf (by omega)
      split at this <;> omega
    · unfold pks
      split
      · split
        · have := pks_per1 hp h1 h2 f (at_ + 1) (wait ++ [all.getD at_ 0]) (by omega) (by rw [List.length_append]; simp; omega) (by omega) (by omega) hl
          rw [List.length_append] at this
          simp only [List.length_cons, List.length_nil] at this
          omega
        · have hm := (findB_isM all at_).resolve_left (by omega)
          obtain ⟨m1, m2, m3, m4, m5, m6, m7⟩ := hm
          rw [List.length_append, List.length_append, flushB_length, show (matB (findB all at_).1 (findB all at_).2).length = 3 from rfl]
          by_cases hle : at_ + (findB all at_).2 ≤ q
          · have := pks_per1 hp h1 h2 f (at_ + (findB all at_).2) [] hle (by simp) (by omega) (by omega) hl
            simp only [List.length_nil] at this
            omega
          · have := pks_per2 hp h1 (by omega) f (at_ + (findB all at_).2) [] (by omega) m6 (by omega) (by simp)
            simp only [List.length_nil] at this
            split at this <;> omega
      · rw [flushB_length]; omega
theorem packB_per {all : List UInt8} {q : Nat} (hp : Per q all) (h1 : 1 ≤ q) (h2 : q ≤ 20) : (packB [] all).length ≤ q + 1 + 3 * ((all.length + 130) / 131) + 4 := by
  rw [packB_pks]
  show (pks all all.length 0 []).length ≤ _
  by_cases hl : 1 ≤ all.length
  · have := pks_per1 hp h1 h2 all.length 0 [] (by omega) (by simp) (by omega) (by omega) hl
    simp only [List.length_nil] at this
    omega
  · have : all = [] := List.eq_nil_of_length_eq_zero (by omega)
    subst this
    simp [pks, flushB, litsB, cks]

/-- b, k times. -/
def rep (b : List UInt8) : Nat → List UInt8
  | 0 => []
  | k + 1 => rep b k ++ b
theorem rep_length (b : List UInt8) : ∀ k, (rep b k).length = k * b.length
  | 0 => by simp [rep]
  | k + 1 => by rw [rep, List.length_append, rep_length b k, Nat.add_mul, Nat.one_mul]
theorem rep_front (b : List UInt8) : ∀ k, rep b (k + 1) = b ++ rep b k
  | 0 => by simp [rep]
  | k + 1 => by rw [rep, rep_front b k, List.append_assoc, ← rep, rep_front b k]
theorem rep_per (b : List UInt8) (k : Nat) : Per b.length (rep b k) := by
  intro i hi
  rcases k with _ | k
  · simp [rep] at hi
  · have h1 : (rep b k)[i]? = (rep b (k + 1))[b.length + i]? := by
      rw [rep_front, List.getElem?_append_right (by omega), Nat.add_sub_cancel_left]
    have hik : i < (rep b k).length := by rw [rep_length] at hi ⊢; rw [Nat.add_mul] at hi; omega
    have h2 : (rep b (k + 1))[i]? = (rep b k)[i]? := by rw [rep, List.getElem?_append_left hik]
    rw [List.getD_eq_getElem?_getD, List.getD_eq_getElem?_getD, h2, h1]
theorem packB_rep (b : List UInt8) (k : Nat) (hb : b.length ≤ 20) : (packB [] (rep b k)).length ≤ b.length + 1 + 3 * (((rep b k).length + 130) / 131) + 4 := by
  by_cases h0 : b.length = 0
  · have : (rep b k) = [] := List.eq_nil_of_length_eq_zero (by rw [rep_length, h0]; simp)
    rw [this]
    have : (packB [] []).length = 0 := by have := packB_le [] []; simpa using this
    omega
  · exact packB_per (rep_per b k) (by omega) hb
end Go.Proofs.Ytcpiplfajgdohaa
