/- A source that counts: get. Conditions: those of each theorem. -/
import Derived.Test.YtkdlmnhkbockhaaM0
namespace Go.Proofs.Ytkdlmnhkbockhaa
open Go.RowKit Go.Maps

/-- How often each page was asked for. -/
def cntOf (log : List Nat) (k : Int) : Option Int := if 0 ≤ k ∧ k.toNat ∈ log then some (log.count k.toNat : Int) else none
/-- What a source that counts holds: its block, the map of its pages, the map of its counts. -/
structure GetJ (am pm cm : Nat) (F : Int → Option (List UInt8)) (n : Nat) (w : World) (log : List Nat) : Prop where
  blk : Blk w am 30 #[.map (some pm), .map (some cm)]
  p : MapV elS w pm F n
  c : ∃ nc, MapV elI w cm (cntOf log) nc ∧ (log.Nodup → nc = log.length)
  ne : pm ≠ cm
theorem GetJ.mod {am pm cm : Nat} {F : Int → Option (List UInt8)} {n : Nat} {w w' : World} {log : List Nat} {T : Nat → Prop} (h : GetJ am pm cm F n w log) (hm : Mod T w w') (h1 : ¬ T am) (h2 : ¬ T pm) (h3 : ¬ T cm) : GetJ am pm cm F n w' log := by
  obtain ⟨a, b, ⟨nc, c1, c2⟩, d⟩ := h
  exact ⟨a.mod hm h1, b.mod hm h2, ⟨nc, c1.mod hm h3, c2⟩, d⟩
theorem nodup_le : ∀ (n : Nat) {l : List Nat}, l.Nodup → (∀ k ∈ l, k < n) → l.length ≤ n
  | 0, l, _, hl => by
    cases l with
    | nil => exact Nat.le_refl _
    | cons a l => exact absurd (hl a List.mem_cons_self) (Nat.not_lt_zero _)
  | n + 1, l, h, hl => by
    by_cases hn : n ∈ l
    · have h1 := nodup_le n (l := l.erase n) (h.erase n) fun k hk => by
        have hk2 := (h.mem_erase_iff).1 hk
        have := hl k hk2.2
        have := hk2.1
        omega
      rw [List.length_erase_of_mem hn] at h1
      omega
    · have h1 := nodup_le n h fun k hk => by
        have := hl k hk
        have : k ≠ n := fun e => hn (e ▸ hk)
        omega
      omega
/-- The source of a counting struct. -/
def getA (am pm cm : Nat) (F : Int → Option (List UInt8)) (n : Nat) : Ask where
  src := .func (.func 12) #[.pointer (some ⟨am, 0, none⟩)] #[]
  T i := i = am ∨ i = pm ∨ i = cm
  J w log := GetJ am pm cm F n w log
  ct k := (F k).map padB
  has := true
  stay D w w' log h hm hd := by
    have la := h.blk.lt
    have lp := h.p.lt
    obtain ⟨nc, hc, _⟩ := h.c
    have lc := hc.lt
    exact h.mod hm (fun hx => hd _ la hx (.inl rfl)) (fun hx => hd _ lp hx (.inr (.inl rfl))) (fun hx => hd _ lc hx (.inr (.inr rfl)))
  old w log h i hi := by
    have la := h.blk.lt
    have lp := h.p.lt
    obtain ⟨nc, hc, _⟩ := h.c
    have lc := hc.lt
    rcases hi with rfl | rfl | rfl <;> assumption

theorem cntOf_snoc (log : List Nat) (k : Nat) (hk : k ∉ log) (j : Int) : cntOf (log ++ [k]) j = if j = (k : Int) then some 1 else cntOf log j := by
  unfold cntOf
  by_cases e : j = k
  · subst e
    rw [if_pos rfl, if_pos ⟨by omega, by simp⟩, Int.toNat_natCast, List.count_append, List.count_eq_zero.2 hk]
    simp
  · rw [if_neg e]
    by_cases h0 : 0 ≤ j
    · have hne : j.toNat ≠ k := by omega
      simp [h0, hne, List.count_append, List.count_cons, Ne.symm hne]
    · simp [h0]

set_option maxRecDepth 100000 in
set_option maxHeartbeats 400000 in
theorem get_ok {am pm cm : Nat} {F : Int → Option (List UInt8)} {n : Nat} {w : World} {log : List Nat} (h : GetJ am pm cm F n w log) (k : Nat) (hk : k < 64) (hn : k ∉ log) (hnd : log.Nodup) (hl : log.length ≤ 64) :
    Calls Try.prog 12 #[.pointer (some ⟨am, 0, none⟩), .int .i64 (k : Int)] w fun e w' => e = .returned (.tuple #[.string ⟨((F k).getD []).toArray⟩, .bool (F k).isSome]) ∧ GetJ am pm cm F n w' (log ++ [k]) ∧ Mod (fun i => i = cm) w w' ∧ w'.heap.size = w.heap.size := by
  have hwf : (Lit.int .i64 (k : Int)).wf = true := by
    have h1 : IntKind.i64.min = -9223372036854775808 := rfl
    have h2 : IntKind.i64.max = 9223372036854775807 := rfl
    simp only [Lit.wf, Bool.and_eq_true, decide_eq_true_eq]
    omega
  obtain ⟨nc, hc, hcn⟩ := h.c
  have hF0 : cntOf log k = none := by
    unfold cntOf
    rw [if_neg (by simp [hn])]
  have hl1 := hc.look hwf
  rw [hF0] at hl1
  have hmx : maxLen = 9223372036854775807 := rfl
  obtain ⟨w1, hr, hc1, hm1, hs1⟩ := hc.store hwf (v := (1 : Int)) (show (Lit.int .i64 1).wf = true by decide) (by rw [hcn hnd]; omega)
  have hcm : cm ≠ am := hc.ne_blk h.blk
  have hb1 := h.blk.mod hm1 (Ne.symm hcm)
  have hp1 := h.p.mod hm1 h.ne
  have hl2 := hp1.look_ok hwf
  have a0 := h.blk.cell 1 _ rfl
  have a1 := hb1.cell 0 _ rfl
  change (Instr.lookup 28 (.map (some cm)) (.int .i64 (k : Int)) false).run Try.prog w = .ok (.int .i64 0) w at hl1
  change (Instr.mapUpdate 28 (.map (some cm)) (.int .i64 (k : Int)) (.int .i64 1)).run Try.prog w = .ok () w1 at hr
  change (Instr.lookup 25 (.map (some pm)) (.int .i64 (k : Int)) true).run Try.prog w1 = .ok (.tuple #[.string ⟨((F k).getD []).toArray⟩, .bool (F k).isSome]) w1 at hl2
  have hJ : GetJ am pm cm F n w1 (log ++ [k]) := by
    refine ⟨hb1, hp1, ⟨_, hc1.congr fun j => ?_, fun _ => ?_⟩, h.ne⟩
    · rw [cntOf_snoc log k hn j]
    · rw [hF0]
      simp [hcn hnd]
  have HH := Lib.hid (And.intro hJ (And.intro hm1 hs1))
  clear h hc hcn hF0 hc1 hm1 hs1 hb1 hp1 hJ hn hnd hl hk hwf
  go_enter Try.func12, Try.ntmps12
  go_wp2
  go_ret2
  exact ⟨rfl, HH.out⟩
end Go.Proofs.Ytkdlmnhkbockhaa
