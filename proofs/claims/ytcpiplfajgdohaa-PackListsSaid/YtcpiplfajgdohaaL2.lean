/- A beginning of a packed form unpacks to a beginning, or ends within a token. Conditions: those of each theorem. -/
import Derived.Test.YtcpiplfajgdohaaL1
namespace Go.Proofs.Ytcpiplfajgdohaa

theorem copyM_prefix (d : Nat) : ∀ (l : Nat) (o : List UInt8), o <+: copyM d l o
  | 0, o => List.prefix_refl _
  | l + 1, o => (List.prefix_append _ _).trans (copyM_prefix d l _)

theorem unp_prefix_out (most dl : Nat) : ∀ (f at_ : Nat) (rest out res : List UInt8) (a e : Nat), unp most dl f at_ rest out = (some res, a, e) → out <+: res
  | 0, at_, rest, out, res, a, e, h => by
    simp only [unp, Prod.mk.injEq, Option.some.injEq] at h
    rw [h.1]
    exact List.prefix_refl _
  | f + 1, at_, rest, out, res, a, e, h => by
    unfold unp at h
    split at h
    · simp only [Prod.mk.injEq, Option.some.injEq] at h
      rw [h.1]
      exact List.prefix_refl _
    · split at h
      · simp at h
      · split at h
        · simp at h
        · split at h
          · simp at h
          · exact ((List.prefix_append _ _).trans (copyM_prefix _ _ _)).trans (unp_prefix_out most dl f _ _ _ _ _ _ h)

theorem nextE_take (x : UInt8) (xs : List UInt8) (h : (nextE (x :: xs)).2.2 = 0) (n : Nat) :
    ((nextE (x :: xs)).2.1 ≤ n + 1 ∧ nextE (x :: xs.take n) = nextE (x :: xs)) ∨ (n + 1 < (nextE (x :: xs)).2.1 ∧ (nextE (x :: xs.take n)).2.2 = 28) := by
  have hx := x.toNat_lt
  by_cases h1 : x.toNat < 128
  · unfold nextE at h ⊢
    dsimp only at h ⊢
    rw [if_pos h1] at h ⊢
    rw [if_pos h1]
    by_cases h2 : xs.length < x.toNat + 1
    · rw [if_pos h2] at h; simp at h
    · rw [if_neg h2]
      by_cases h3 : x.toNat + 1 ≤ n
      · refine .inl ⟨by dsimp only; omega, ?_⟩
        rw [if_neg (by rw [List.length_take]; omega), List.take_take, Nat.min_eq_left h3]
      · refine .inr ⟨by dsimp only; omega, ?_⟩
        rw [if_pos (by rw [List.length_take]; omega)]
  · rcases xs with _ | ⟨y, _ | ⟨z, xs⟩⟩
    · simp [nextE, h1] at h
    · simp [nextE, h1] at h
    · simp only [nextE, h1, if_false] at h ⊢
      rcases n with _ | _ | n
      · refine .inr ⟨?_, by simp⟩
        split at h <;> simp_all
      · refine .inr ⟨?_, by simp⟩
        split at h <;> simp_all
      · refine .inl ⟨?_, by simp⟩
        split at h <;> simp_all

theorem unp_beginning (most dl : Nat) : ∀ (f at_ : Nat) (rest out res : List UInt8), rest.length ≤ f → unp most dl f at_ rest out = (some res, 0, 0) → ∀ (n g off : Nat), (rest.take n).length ≤ g →
    (∃ r, unp most dl g off (rest.take n) out = (some r, 0, 0) ∧ r <+: res) ∨ (∃ a, unp most dl g off (rest.take n) out = (none, a, 28))
  | 0, at_, rest, out, res, hf, h, n, g, off, hg => by
    have : rest = [] := List.eq_nil_of_length_eq_zero (by omega)
    subst this
    have h0 := unp_prefix_out _ _ _ _ _ _ _ _ _ h
    refine .inl ⟨out, ?_, h0⟩
    cases g <;> simp [unp]
  | f + 1, at_, rest, out, res, hf, h, n, g, off, hg => by
    have h0 := unp_prefix_out _ _ _ _ _ _ _ _ _ h
    rcases rest with _ | ⟨x, xs⟩
    · refine .inl ⟨out, ?_, h0⟩
      cases g <;> simp [unp]
    · rcases n with _ | n
      · refine .inl ⟨out, ?_, h0⟩
        cases g <;> simp [unp]
      · rw [List.take_succ_cons] at hg ⊢
        obtain ⟨g, rfl⟩ : ∃ g', g = g' + 1 := ⟨g - 1, by simp at hg; omega⟩
        unfold unp at h
        rw [if_neg (by simp)] at h
        by_cases he : (nextE (x :: xs)).2.2 ≠ 0
        · rw [if_pos he] at h; simp at h
        · rw [if_neg he] at h
          have he' : (nextE (x :: xs)).2.2 = 0 := by simpa using he
          have hsz := nextE_size x xs he'
          by_cases h1 : out.length < (nextE (x :: xs)).1.2.1
          · rw [if_pos h1] at h; simp at h
          · rw [if_neg h1] at h
            by_cases h2 : most < out.length - dl + (nextE (x :: xs)).1.1.length + (nextE (x :: xs)).1.2.2
            · rw [if_pos h2] at h; simp at h
            · rw [if_neg h2] at h
              unfold unp
              rw [if_neg (by simp)]
              rcases nextE_take x xs he' n with ⟨hle, heq⟩ | ⟨hlt, h28⟩
              · rw [heq, if_neg he, if_neg h1, if_neg h2]
                have hdrop : (x :: xs.take n).drop (nextE (x :: xs)).2.1 = ((x :: xs).drop (nextE (x :: xs)).2.1).take (n + 1 - (nextE (x :: xs)).2.1) := by
                  rw [← List.take_succ_cons, List.drop_take]
                rw [hdrop]
                refine unp_beginning most dl f _ _ _ res (by rw [List.length_drop]; simp only [List.length_cons] at hf ⊢; omega) h _ g _ ?_
                rw [← hdrop, List.length_drop]
                simp only [List.length_cons] at hg ⊢
                omega
              · rw [if_pos (by rw [h28]; decide)]
                refine .inr ⟨off, ?_⟩
                rw [h28]
end Go.Proofs.Ytcpiplfajgdohaa
