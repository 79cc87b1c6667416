/- bytes.Clone returns a row of its own with the same bytes. Conditions: those of each theorem. -/
import Derived.Test.YtcpiplfajgdohaaProg
import Derived.Test.YtcpiplfajgdohaaB0
import Derived.WalkSpells
import Derived.Outline
import Derived.Deep.DeepFit
namespace Go.Proofs.Ytcpiplfajgdohaa
open Go.RowKit

theorem info5 : (Try.prog.info? 5).map (fun i => (i.zero, i.size, i.bytes)) = some (some (.int .u8 0), 1, 1) := by kernel_rfl

/-- The slice value (A, its length, c) is a row of bytes of the call's own, from block base on. -/
abbrev OwnB (w : World) (base : Nat) (A : Option Addr) (c : Nat) (xs : List UInt8) : Prop := OwnV w base 5 (.slice A xs.length c) (bts xs)
/-- k is the block of the address A. -/
def At (A : Option Addr) (k : Nat) : Prop := A.map (·.block) = some k

theorem OwnB.rd {w : World} {base : Nat} {A : Option Addr} {c : Nat} {xs : List UInt8} (h : OwnB w base A c xs) : RdB w A xs.length c xs := OwnV.rd h
theorem OwnV.addr_blk {w : World} {base : Nat} {e : TypeId} {A : Option Addr} {n c : Nat} {vs : List Value} (h : OwnV w base e (.slice A n c) vs) : ∀ k, At A k → (.slice A n c : Value).ownBlock = some k := by
  obtain ⟨A', c', hv, -, -, -, hb⟩ := h.form
  injection hv with h1 h2 h3
  subst h1 h2 h3
  intro k hk
  rw [hb]; exact hk
theorem OwnV.blk_addr {A : Option Addr} {n c k : Nat} (h : (.slice A n c : Value).ownBlock = some k) : At A k := by
  cases A with
  | none => simp [Value.ownBlock] at h
  | some ad => simpa [Value.ownBlock, At] using h
theorem OwnV.at_ne {w : World} {base : Nat} {e : TypeId} {A : Option Addr} {n c : Nat} {vs : List Value} {g : Nat} {t : TypeId} {cs : Array Value} (h : OwnV w base e (.slice A n c) vs) (hb : Blk w g t cs) (hne : e ≠ t) : ¬ At A g :=
  fun hk => h.ne_blk hb hne g (h.addr_blk g hk) rfl
theorem OwnV.at_base {w : World} {base : Nat} {e : TypeId} {A : Option Addr} {n c : Nat} {vs : List Value} (h : OwnV w base e (.slice A n c) vs) : ∀ k, At A k → base ≤ k ∧ k < w.heap.size :=
  fun k hk => h.block_base k (h.addr_blk k hk)
theorem OwnV.keep {S : Nat → Prop} {w w' : World} {base : Nat} {e : TypeId} {A : Option Addr} {n c : Nat} {vs : List Value} (h : OwnV w base e (.slice A n c) vs) (hm : Mod S w w') (hS : ∀ k, At A k → ¬ S k) : OwnV w' base e (.slice A n c) vs :=
  h.mod hm (fun k hk => hS k (OwnV.blk_addr hk))

theorem wp_append_b {o : Oper} {a : Act} {K : Act → World → Prop} {Q : Exit → Act → World → Prop} {w : World} (s x : Operand)
    (ho : o.op = .call { callee := .builtin .append, args := #[s, x], argTypes := #[22, 22] })
    (base : Nat) (A : Option Addr) (n c : Nat) (xs : List UInt8) (hs : a.eval s = .slice A n c) (hn : xs.length = n) (hown : OwnB w base A c xs)
    (A2 : Option Addr) (m c2 : Nat) (ys : List UInt8) (hx : a.eval x = .slice A2 m c2) (hr : RdB w A2 m c2 ys)
    (hlen : n + m ≤ 140737488355328) (hbase : base ≤ w.heap.size)
    (h : ∀ A' c' w', OwnB w' base A' c' (xs ++ ys) → Mod (At A) w w' → (∀ k, At A' k → At A k ∨ k = w.heap.size) → K (a.put o.dst (.slice A' (n + m) c')) w') : o.wp Try.prog a w K Q := by
  subst hn
  refine wp_append_src w s x 22 ho base 5 (.int .u8 0) 1 Try.underlying22 info5 rfl (.slice A xs.length c) (bts xs) hs hown A2 m c2 (bts ys) hx hr (bts_one _) (by rw [bts_length]; simp only [maxLen]; omega) (by rw [bts_length]; omega) hbase ?_
  intro v w' hown' hg hb
  rw [← bts_append] at hown'
  have hm : ys.length = m := hr.blen
  obtain ⟨A', c', rfl, -, -, -, -⟩ := hown'.form
  rw [bts_length, List.length_append, hm] at hown' hb ⊢
  refine h A' c' w' (by unfold OwnB; rw [List.length_append, hm]; exact hown') ((Mod.of_grown hg).mono (fun k _ hk => OwnV.blk_addr hk)) (fun k hk => ?_)
  have := OwnV.addr_blk hown' k hk
  rcases hb with hb | hb
  · rw [hb] at this; exact .inl (OwnV.blk_addr this)
  · rw [hb] at this; injection this with this; exact .inr this.symm

theorem append_b {ops : Array Oper} {rest : List Oper} {o : Oper} {a : Act} {Q : Exit → Act → World → Prop} {w : World} (hgd : o.guard = none) (s x : Operand)
    (ho : o.op = .call { callee := .builtin .append, args := #[s, x], argTypes := #[22, 22] })
    (base : Nat) (A : Option Addr) (c : Nat) (xs : List UInt8) (hs : a.eval s = .slice A xs.length c) (hown : OwnB w base A c xs)
    (A2 : Option Addr) (m c2 : Nat) (ys : List UInt8) (hx : a.eval x = .slice A2 m c2) (hr : RdB w A2 m c2 ys)
    (hlen : xs.length + m ≤ 140737488355328) (hbase : base ≤ w.heap.size)
    (h : ∀ A' c' w', OwnB w' base A' c' (xs ++ ys) → Mod (At A) w w' → (∀ k, At A' k → At A k ∨ k = w.heap.size) → wpList Try.prog ops Q rest (a.put o.dst (.slice A' (xs.length + m) c')) w') : wpList Try.prog ops Q (o :: rest) a w :=
  wpList_plain hgd fun _ hK => wp_append_b s x ho base A _ c xs hs rfl hown A2 m c2 ys hx hr hlen hbase fun A' c' w' h1 h2 h3 => hK _ _ (h A' c' w' h1 h2 h3)

theorem append_n {ops : Array Oper} {rest : List Oper} {o : Oper} {a : Act} {Q : Exit → Act → World → Prop} {w : World} (hgd : o.guard = none) (s x : Operand)
    (ho : o.op = .call { callee := .builtin .append, args := #[s, x], argTypes := #[22, 22] })
    (base : Nat) (A : Option Addr) (n c : Nat) (xs : List UInt8) (hs : a.eval s = .slice A n c) (hn : xs.length = n) (hown : OwnB w base A c xs)
    (A2 : Option Addr) (m c2 : Nat) (ys : List UInt8) (hx : a.eval x = .slice A2 m c2) (hr : RdB w A2 m c2 ys)
    (hlen : n + m ≤ 140737488355328) (hbase : base ≤ w.heap.size)
    (h : ∀ A' c' w', OwnB w' base A' c' (xs ++ ys) → Mod (At A) w w' → (∀ k, At A' k → At A k ∨ k = w.heap.size) → wpList Try.prog ops Q rest (a.put o.dst (.slice A' (n + m) c')) w') : wpList Try.prog ops Q (o :: rest) a w := by
  subst hn
  exact append_b hgd s x ho base A c xs hs hown A2 m c2 ys hx hr hlen hbase h

theorem rd_one (w : World) (y : UInt8) : RdB (w.alloc (.cells #[.int .u8 (y.toNat : Int)] 5)) (some ⟨w.heap.size, 0, none⟩) 1 1 [y] :=
  ⟨rfl, Nat.le_refl _, fun _ => ⟨_, _, rfl, fun j u hu => by
    have := (Blk.fresh w 5 #[.int .u8 (y.toNat : Int)]).cell (0 + j) u
    rw [Nat.zero_add] at this ⊢
    exact this (by simpa [bts, B8] using hu)⟩⟩

theorem own_lit0 (w : World) (base : Nat) (hb : base ≤ w.heap.size) : OwnV (w.alloc (.cells #[] 5)) base 5 (.slice (some ⟨w.heap.size, 0, none⟩) 0 0) [] :=
  World.ownsRow_made w #[] 0 hb (by simp [maxLen]) (by simp)

set_option maxHeartbeats 400000 in
theorem clone_some (ad : Addr) (n c : Nat) (xs : List UInt8) (w : World) (h : RdB w (some ad) n c xs) (hn : n ≤ 140737488351232) :
    Calls Try.prog 31 #[.slice (some ad) n c] w fun e w' => ∃ A' c', e = .returned (.slice A' n c') ∧ OwnV w' w.heap.size 5 (.slice A' n c') (bts xs) ∧ New w w' := by
  have heq := @Lib.run_eql_slice_nil Try.prog
  have hr : RdB (w.alloc (.cells #[] 5)) (some ad) n c xs := h.new ((Mod.refl _ _).alloc _)
  go_enter Try.func31, Try.ntmps31
  go_wp2_with (at_builtin; refine wpList_append_src _ rfl _ _ 22 rfl w.heap.size 5 (.int .u8 0) 1 Try.underlying22 info5 rfl (.slice (some ⟨w.heap.size, 0, none⟩) 0 0) [] rfl (own_lit0 w _ (Nat.le_refl _)) (some ad) n c _ rfl hr (bts_one xs) (by simp [maxLen]; omega) (by simp; omega) (by simp) ?_; intro v w1 hown hg hbk)
  go_ret
  obtain ⟨A', c', rfl, -, -, -, -⟩ := hown.form
  rw [List.nil_append, h.len]
  rw [List.nil_append, h.len] at hown
  refine ⟨A', c', rfl, hown, ?_⟩
  refine ((Mod.refl _ w).alloc _).grown hg fun k hk hlt => ?_
  have : w.heap.size = k := by simpa [Value.ownBlock] using hk
  omega

theorem clone_nil (n c : Nat) (w : World) :
    Calls Try.prog 31 #[.slice none n c] w fun e w' => e = .returned (.slice none 0 0) ∧ w = w' := by
  have heq := @Lib.run_eql_slice_nil Try.prog
  go_enter Try.func31, Try.ntmps31
  go_wp2
  go_ret
  exact ⟨rfl, rfl⟩

theorem clone_any (A : Option Addr) (n c : Nat) (xs : List UInt8) (w : World) (h : RdB w A n c xs) (hn : n ≤ 140737488351232) :
    Calls Try.prog 31 #[.slice A n c] w fun e w' => ∃ A' c', e = .returned (.slice A' n c') ∧ OwnV w' w.heap.size 5 (.slice A' n c') (bts xs) ∧ New w w' := by
  rcases A with _ | ad
  · refine (clone_nil n c w).mono ?_
    rintro e w' ⟨rfl, rfl⟩
    have : xs = [] := by
      rcases xs with _ | ⟨x, xs⟩
      · rfl
      · obtain ⟨_, _, e, _⟩ := h.cells (by have := h.blen; simp at this; omega)
        cases e
    subst this
    have hn0 : n = 0 := h.len.symm
    subst hn0
    exact ⟨_, _, rfl, OwnV.nil _ _ _, Mod.refl _ _⟩
  · exact clone_some ad n c xs w h hn
end Go.Proofs.Ytcpiplfajgdohaa
