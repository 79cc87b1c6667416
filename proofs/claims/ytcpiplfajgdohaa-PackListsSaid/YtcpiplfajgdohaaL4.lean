/- The reference's canonical tokens, written as bytes, are what the packer writes. Conditions: those of each theorem. -/
import Derived.Test.YtcpiplfajgdohaaL3
namespace Go.Proofs.Ytcpiplfajgdohaa

/-- The reference's best match among the distances up to j: its length and its distance. -/
def bst (all : List UInt8) (at_ : Nat) : Nat → Nat × Nat
  | 0 => (0, 0)
  | j + 1 => if (bst all at_ j).1 < ext all at_ (at_ - (j + 1)) 131 0 then (ext all at_ (at_ - (j + 1)) 131 0, j + 1) else bst all at_ j
def bestB (all : List UInt8) (at_ : Nat) : Nat × Nat := bst all at_ (min 4096 at_)
theorem bst_ge (all : List UInt8) (at_ : Nat) : ∀ j d, 1 ≤ d → d ≤ j → ext all at_ (at_ - d) 131 0 ≤ (bst all at_ j).1
  | 0, d, h1, h2 => by omega
  | j + 1, d, h1, h2 => by
    unfold bst
    rcases Nat.eq_or_lt_of_le h2 with rfl | h
    · split <;> omega
    · have := bst_ge all at_ j d h1 (by omega)
      split
      · dsimp only; omega
      · exact this
theorem bst_near (all : List UInt8) (at_ : Nat) : ∀ j, bst all at_ j = (0, 0) ∨ ∃ d, 1 ≤ d ∧ d ≤ j ∧ bst all at_ j = (ext all at_ (at_ - d) 131 0, d) ∧ ∀ d', 1 ≤ d' → d' < d → ext all at_ (at_ - d') 131 0 < ext all at_ (at_ - d) 131 0
  | 0 => .inl rfl
  | j + 1 => by
    unfold bst
    split
    · rename_i h
      refine .inr ⟨j + 1, by omega, by omega, rfl, fun d' h1 h2 => ?_⟩
      have := bst_ge all at_ j d' h1 (by omega)
      omega
    · rcases bst_near all at_ j with h | ⟨d, h1, h2, h3, h4⟩
      · exact .inl h
      · exact .inr ⟨d, h1, by omega, h3, h4⟩
theorem bst_le (all : List UInt8) (at_ : Nat) (j : Nat) : (bst all at_ j).1 ≤ 131 ∧ (bst all at_ j).2 ≤ j := by
  rcases bst_near all at_ j with h | ⟨d, h1, h2, h3, h4⟩
  · rw [h]; simp
  · rw [h3]
    have := (ext_bound all at_ (at_ - d) 131 0).2
    exact ⟨by omega, h2⟩

theorem ext_four {all : List UInt8} {at_ p : Nat} (h : ∀ i, i < 4 → at_ + i < all.length ∧ all.getD (p + i) 0 = all.getD (at_ + i) 0) : ext all at_ p 131 0 = ext all at_ p 127 4 := by
  rw [show (131 : Nat) = 127 + 1 + 1 + 1 + 1 from rfl, ext, if_pos (h 0 (by decide)), ext, if_pos (h 1 (by decide)), ext, if_pos (h 2 (by decide)), ext, if_pos (h 3 (by decide))]
theorem four_ext {all : List UInt8} {at_ p : Nat} (hp : p ≤ at_) (h : 4 ≤ ext all at_ p 131 0) : at_ + 4 ≤ all.length ∧ (all.drop p).take 4 = (all.drop at_).take 4 ∧ ext all at_ p 131 0 = ext all at_ p 127 4 := by
  have hs := fun i (hi : i < 4) => ext_spec all at_ p 131 0 i (Nat.zero_le _) (Nat.lt_of_lt_of_le hi h)
  have h3 := (hs 3 (by decide)).1
  exact ⟨by omega, take4_eq hp (by omega) (fun i hi => (hs i hi).2), ext_four hs⟩

/-- The packer's match is the reference's. -/
theorem find_best (all : List UInt8) (at_ : Nat) : ((bestB all at_).1 < 4 ∧ (findB all at_).2 = 0) ∨ (4 ≤ (bestB all at_).1 ∧ findB all at_ = ((bestB all at_).2, (bestB all at_).1)) := by
  have back : ∀ p, p < at_ → at_ + 4 ≤ all.length → (all.drop p).take 4 = (all.drop at_).take 4 → ext all at_ p 131 0 = ext all at_ p 127 4 := fun p hp hl h4 =>
    ext_four (fun i hi => ⟨by omega, getD_of_take h4 hi⟩)
  by_cases hb : (bestB all at_).1 < 4
  · refine .inl ⟨hb, ?_⟩
    unfold findB
    split
    · rfl
    · rename_i hl
      rcases fnd_near all at_ (posOf all at_ ((all.drop at_).take 4)).reverse (0, 0) (posOf_desc _ _ _) with h | ⟨p, hp, h1, h2, h3, h4⟩
      · rw [h]
      · rw [mem_posOf] at hp
        have hge := bst_ge all at_ (min 4096 at_) (at_ - p) (by omega) (by omega)
        rw [show at_ - (at_ - p) = p from by omega, back p hp.1 (by omega) hp.2] at hge
        have := (ext_bound all at_ p 127 4).1
        unfold bestB at hb
        omega
  · refine .inr ⟨by omega, ?_⟩
    unfold bestB at hb ⊢
    rcases bst_near all at_ (min 4096 at_) with h | ⟨d, h1, h2, h3, h4⟩
    · rw [h] at hb; simp at hb
    · rw [h3] at hb ⊢
      dsimp only at hb ⊢
      obtain ⟨hl, ht, he⟩ := four_ext (all := all) (at_ := at_) (p := at_ - d) (by omega) (by omega)
      unfold findB
      rw [if_neg (by omega)]
      have hmem : at_ - d ∈ (posOf all at_ ((all.drop at_).take 4)).reverse := mem_posOf.2 ⟨by omega, ht⟩
      have hge := fnd_ge all at_ _ (0, 0) (by decide) (posOf_desc all at_ _) (at_ - d) hmem (by omega)
      rcases fnd_near all at_ (posOf all at_ ((all.drop at_).take 4)).reverse (0, 0) (posOf_desc _ _ _) with hf | ⟨p, hp, f1, f2, f3, f4⟩
      · rw [hf] at hge; have := (ext_bound all at_ (at_ - d) 127 4).1; simp at hge; omega
      · rw [f2] at hge ⊢
        dsimp only at hge
        rw [mem_posOf] at hp
        have hbg := bst_ge all at_ (min 4096 at_) (at_ - p) (by omega) (by omega)
        rw [show at_ - (at_ - p) = p from by omega, back p hp.1 (by omega) hp.2, h3] at hbg
        dsimp only at hbg
        have hpd : p = at_ - d := by
          rcases Nat.lt_trichotomy p (at_ - d) with hlt | heq | hgt
          · have := f4 (at_ - d) hmem hlt
            omega
          · exact heq
          · have := h4 (at_ - p) (by omega) (by omega)
            rw [show at_ - (at_ - p) = p from by omega, back p hp.1 (by omega) hp.2] at this
            omega
        subst hpd
        rw [he]
        congr 1
        omega

/-- A token that is literals, or a match. -/
abbrev Tk3 := List UInt8 × Nat × Nat
def runT (run : List UInt8) : List Tk3 := if 0 < run.length then [(run, 0, 0)] else []
/-- The canonical tokens. -/
def cn (all : List UInt8) : Nat → Nat → List UInt8 → List Tk3
  | 0, _, run => runT run
  | f + 1, at_, run =>
    if at_ < all.length then
      if (bestB all at_).1 < 4 then
        if (run ++ [all.getD at_ 0]).length = 128 then (run ++ [all.getD at_ 0], 0, 0) :: cn all f (at_ + 1) []
        else cn all f (at_ + 1) (run ++ [all.getD at_ 0])
      else runT run ++ ([], (bestB all at_).2, (bestB all at_).1) :: cn all f (at_ + (bestB all at_).1) []
    else runT run
theorem best_len {all : List UInt8} {at_ : Nat} (h : 4 ≤ (bestB all at_).1) : at_ + (bestB all at_).1 ≤ all.length := by
  rcases find_best all at_ with ⟨h1, _⟩ | ⟨_, h2⟩
  · omega
  · have hm := (findB_isM all at_).resolve_left (by rw [h2]; dsimp only; omega)
    rw [h2] at hm
    obtain ⟨m1, m2, m3, m4, m5, m6, m7⟩ := hm
    exact m6
theorem cn_fuel (all : List UInt8) : ∀ (f f' at_ : Nat) (run : List UInt8), all.length ≤ at_ + f → all.length ≤ at_ + f' → cn all f at_ run = cn all f' at_ run
  | 0, 0, at_, run, _, _ => rfl
  | 0, f' + 1, at_, run, h, _ => by rw [cn, cn, if_neg (by omega)]
  | f + 1, 0, at_, run, _, h => by rw [cn, cn, if_neg (by omega)]
  | f + 1, f' + 1, at_, run, h1, h2 => by
    rw [cn, cn]
    split
    · split
      · rw [cn_fuel all f f' (at_ + 1) [] (by omega) (by omega), cn_fuel all f f' (at_ + 1) (run ++ [all.getD at_ 0]) (by omega) (by omega)]
      · rw [cn_fuel all f f' (at_ + (bestB all at_).1) [] (by omega) (by omega)]
    · rfl
/-- A token's bytes. -/
def tkB (t : Tk3) : List UInt8 := if 0 < t.2.2 then matB t.2.1 t.2.2 else UInt8.ofNat (t.1.length - 1) :: t.1
def tksB (l : List Tk3) : List UInt8 := l.flatMap tkB
theorem tksB_append (a b : List Tk3) : tksB (a ++ b) = tksB a ++ tksB b := by simp [tksB]
theorem tksB_cons (a : Tk3) (b : List Tk3) : tksB (a :: b) = tkB a ++ tksB b := by simp [tksB]
theorem flushB_run (r : List UInt8) (h : r.length ≤ 128) : flushB r = tksB (runT r) := by
  by_cases h0 : 0 < r.length
  · rw [flushB_step r (List.length_pos_iff.1 h0), runT, if_pos h0, tksB_cons, Nat.min_eq_right h, List.take_of_length_le h, List.drop_eq_nil_of_le h, flushB_nil]
    rfl
  · have : r = [] := List.eq_nil_of_length_eq_zero (by omega)
    subst this
    rfl
theorem flushB_add : ∀ (m : Nat) (ws r : List UInt8), ws.length = 128 * m → flushB (ws ++ r) = flushB ws ++ flushB r
  | 0, ws, r, h => by
    have : ws = [] := List.eq_nil_of_length_eq_zero (by omega)
    subst this
    rw [flushB_nil, List.nil_append, List.nil_append]
  | m + 1, ws, r, h => by
    have h1 : ws ≠ [] := by rintro rfl; simp at h
    have h2 : ws ++ r ≠ [] := by simp [h1]
    have hl : (ws ++ r).length = ws.length + r.length := List.length_append
    rw [flushB_step ws h1, flushB_step (ws ++ r) h2, Nat.min_eq_left (by omega), Nat.min_eq_left (by omega), List.take_append_of_le_length (by omega), List.drop_append_of_le_length (by omega), flushB_add m (ws.drop 128) r (by rw [List.length_drop]; omega), List.append_assoc]
theorem pks_cn (all : List UInt8) : ∀ (f at_ m : Nat) (ws run : List UInt8), ws.length = 128 * m → run.length < 128 → pks all f at_ (ws ++ run) = flushB ws ++ tksB (cn all f at_ run)
  | 0, at_, m, ws, run, h1, h2 => by
    rw [pks, cn, flushB_add m ws run h1, flushB_run run (by omega)]
  | f + 1, at_, m, ws, run, h1, h2 => by
    unfold pks cn
    by_cases hlt : at_ < all.length
    · rw [if_pos hlt, if_pos hlt]
      rcases find_best all at_ with ⟨hb, hf⟩ | ⟨hb, hf⟩
      · rw [if_pos (by omega), if_pos hb, List.append_assoc]
        by_cases h128 : (run ++ [all.getD at_ 0]).length = 128
        · rw [if_pos h128, tksB_cons]
          have := pks_cn all f (at_ + 1) (m + 1) (ws ++ (run ++ [all.getD at_ 0])) [] (by rw [List.length_append, h128]; omega) (by decide)
          rw [List.append_nil] at this
          rw [this, flushB_add m ws _ h1, List.append_assoc, flushB_run (run ++ [all.getD at_ 0]) (by omega), runT, if_pos (by omega), tksB_cons, List.append_assoc]
          rfl
        · rw [if_neg h128]
          have hl : (run ++ [all.getD at_ 0]).length = run.length + 1 := by simp
          exact pks_cn all f (at_ + 1) m ws _ h1 (by omega)
      · rw [hf, if_neg (by dsimp only; omega), if_neg (by omega), flushB_add m ws run h1, tksB_append, tksB_cons, flushB_run run (by omega)]
        have := pks_cn all f (at_ + (bestB all at_).1) 0 [] [] rfl (by decide)
        rw [List.append_nil, flushB_nil, List.nil_append] at this
        dsimp only
        rw [this, List.append_assoc]
        congr 2
        rw [tkB, if_pos (by dsimp only; omega)]
    · rw [if_neg hlt, if_neg hlt, flushB_add m ws run h1, flushB_run run (by omega)]
/-- For a dictionary within the window: the packed form is that of the canonical tokens. -/
theorem packB_cn (dict b : List UInt8) (h : dict.length ≤ 4096) : packB dict b = tksB (cn (dict ++ b) b.length dict.length []) := by
  have := pks_cn (dict ++ b) b.length dict.length 0 [] [] rfl (by decide)
  rw [List.append_nil, flushB_nil, List.nil_append] at this
  rw [packB_pks, show dict.length - 4096 = 0 from by omega, List.drop_zero, Nat.sub_zero, this]
end Go.Proofs.Ytcpiplfajgdohaa
