/- Rows of tokens: three cells each, the literals in rows of their own. Conditions: those of each theorem. -/
import Derived.Test.YtcpiplfajgdohaaT19
namespace Go.Proofs.Ytcpiplfajgdohaa
open Go.RowKit Go.Shelf

/-- A token in memory: where its literals lie, what they are, its distance, its length. -/
structure PT where
  A : Option Addr
  c : Nat
  ls : List UInt8
  d : Nat
  l : Nat
def PT.tk (t : PT) : Tk3 := (t.ls, t.d, t.l)
def ptC (t : PT) : List Value := [.slice t.A t.ls.length t.c, .int .i64 (t.d : Int), .int .i64 (t.l : Int)]
def ptsC (l : List PT) : List Value := l.flatMap ptC
theorem ptsC_length : ∀ l : List PT, (ptsC l).length = l.length * 3
  | [] => rfl
  | t :: l => by
    have := ptsC_length l
    unfold ptsC at this ⊢
    rw [List.flatMap_cons, List.length_append, this, List.length_cons, Nat.add_mul]
    show 3 + _ = _
    omega
theorem ptsC_append (a b : List PT) : ptsC (a ++ b) = ptsC a ++ ptsC b := by simp [ptsC]
theorem ptsC_one (l : List PT) : ∀ u ∈ ptsC l, u.oneCell' = true := by
  intro u hu
  simp only [ptsC, List.mem_flatMap, ptC, List.mem_cons, List.not_mem_nil, or_false] at hu
  obtain ⟨t, _, rfl | rfl | rfl⟩ := hu <;> rfl
theorem ptsC_get : ∀ (l : List PT) (j k : Nat) (t : PT), l[j]? = some t → k < 3 → (ptsC l)[j * 3 + k]? = (ptC t)[k]?
  | [], j, k, t, h, _ => by simp at h
  | t :: l, 0, k, t', h, hk => by
    simp at h
    subst h
    unfold ptsC
    rw [List.flatMap_cons, Nat.zero_mul, Nat.zero_add, List.getElem?_append_left (by simp [ptC]; omega)]
  | t :: l, j + 1, k, t', h, hk => by
    simp at h
    have := ptsC_get l j k t' h hk
    unfold ptsC at this ⊢
    rw [List.flatMap_cons, List.getElem?_append_right (by simp [ptC]; omega), ← this]
    congr 1
    show (j + 1) * 3 + k - 3 = _
    omega

/-- A row of tokens of the call's own. -/
abbrev OwnT (w : World) (base : Nat) (e : TypeId) (A : Option Addr) (c : Nat) (l : List PT) : Prop := w.ownsRow base e 3 (.slice A l.length c) l.length (ptsC l)

theorem OwnT.nil (w : World) (base : Nat) (e : TypeId) : OwnT w base e none 0 [] := World.ownsRow_nil w base e 3
theorem OwnT.at_base {w : World} {base : Nat} {e : TypeId} {A : Option Addr} {c : Nat} {l : List PT} (h : OwnT w base e A c l) : ∀ k, At A k → base ≤ k ∧ k < w.heap.size ∧ ∃ cs, Blk w k e cs := by
  intro k hk
  rcases h.2 with ⟨hv, hn⟩ | ⟨g, cap, cur, hv, hb, hg, _⟩
  · injection hv with h1
    subst h1
    simp [At] at hk
  · injection hv with h1
    subst h1
    simp [At] at hk
    subst hk
    exact ⟨hb, (Array.getElem?_eq_some_iff.1 hg).1, cur, hg⟩
theorem OwnT.keep {S : Nat → Prop} {w w' : World} {base : Nat} {e : TypeId} {A : Option Addr} {c : Nat} {l : List PT} (h : OwnT w base e A c l) (hm : Mod S w w') (hS : ∀ k, At A k → ¬ S k) : OwnT w' base e A c l := by
  refine ⟨h.1, ?_⟩
  rcases h.2 with hn | ⟨g, cap, cur, hv, hb, hg, rest⟩
  · exact .inl hn
  · injection hv with h1 h2 h3
    subst h1
    exact .inr ⟨g, cap, cur, by rw [h3], hb, (hm.block g (Array.getElem?_eq_some_iff.1 hg).1 (hS g rfl)).trans hg, rest⟩
theorem OwnT.new {w w' : World} {base : Nat} {e : TypeId} {A : Option Addr} {c : Nat} {l : List PT} (h : OwnT w base e A c l) (hm : New w w') : OwnT w' base e A c l := h.keep hm (fun _ _ h => h)
theorem OwnT.cell {w : World} {base : Nat} {e : TypeId} {A : Option Addr} {c : Nat} {l : List PT} (h : OwnT w base e A c l) {j k : Nat} {t : PT} (ht : l[j]? = some t) (hk : k < 3) :
    ∃ g, A = some ⟨g, 0, none⟩ ∧ l.length ≤ c ∧ w.cell? ⟨g, j * 3 + k, none⟩ = (ptC t)[k]? := by
  have hj : j < l.length := (List.getElem?_eq_some_iff.1 ht).1
  have hl := ptsC_length l
  rcases h.2 with ⟨hv, hn⟩ | ⟨g, cap, cur, hv, hb, hg, hnc, hcm, hcs, htake⟩
  · omega
  · injection hv with h1 h2 h3
    subst h1 h3
    refine ⟨g, rfl, hnc, ?_⟩
    have hrow : w.ownsRow base e 3 (.slice (some ⟨g, 0, none⟩) l.length c) l.length (ptsC l) := h
    rw [hrow.cellAt (j * 3 + k) (by omega), ptsC_get l j k t ht hk]

/-- append(out, T{..}). -/
theorem run_append_t {P : Program} (w : World) (base : Nat) (t ty e : TypeId) (z : Value) (ht : P.underlying t = some (.slice e)) (hinfo : (P.info? e).map (fun i => (i.zero, i.size, i.bytes)) = some (some z, 3, 40)) (hzs : z.cells.size = 3)
    (A : Option Addr) (c : Nat) (l : List PT) (hown : OwnT w base e A c l) (g : Nat) (x : PT) (hg : Blk w g e (ptC x).toArray) (hlen : l.length < 3000000) (hbase : base ≤ w.heap.size) :
    ∃ A' c' w', (Builtin.append_ #[t, t] ty #[.slice A l.length c, .slice (some ⟨g, 0, none⟩) 1 1]).run P w = .ok (.slice A' (l.length + 1) c') w' ∧ OwnT w' base e A' c' (l ++ [x]) ∧ Mod (At A) w w' ∧ (∀ k, At A' k → At A k ∨ k = w.heap.size) := by
  obtain ⟨i, hi⟩ : ∃ i, P.info? e = some i := by
    cases h : P.info? e with
    | none => rw [h] at hinfo; cases hinfo
    | some i => exact ⟨i, rfl⟩
  rw [hi] at hinfo
  simp only [Option.map_some, Option.some.injEq, Prod.mk.injEq] at hinfo
  obtain ⟨v', w', hrun, h2, h3, _, h5⟩ := run_append_own_at (P := P) w base t ty e i z 3 40 ht hi hinfo.1 hinfo.2.1 hinfo.2.2 hzs (by omega) (.slice A l.length c) l.length (ptsC l) hown ⟨g, 0, none⟩ 1 1 (ptC x) rfl
    (fun j u hu => by rw [addr_add]; exact hg.cell (0 + j) u (by rw [Nat.zero_add]; simpa using hu)) (by intro u hu; exact ptsC_one [x] u (by simpa [ptsC] using hu)) (by simp only [maxLen]; omega) (by omega) hbase
  have hx : ptsC l ++ ptC x = ptsC (l ++ [x]) := by rw [ptsC_append]; simp [ptsC]
  rw [hx] at h2
  have hl : (l ++ [x]).length = l.length + 1 := by simp
  obtain ⟨A', c', rfl⟩ : ∃ A' c', v' = .slice A' (l.length + 1) c' := by
    rcases h2.2 with ⟨rfl, hn⟩ | ⟨g, cap, cur, rfl, _⟩
    · omega
    · exact ⟨_, _, rfl⟩
  refine ⟨A', c', w', hrun, by unfold OwnT; rw [hl]; exact h2, (Mod.of_grown h3).mono (fun k _ hk => OwnV.blk_addr hk), fun k hk => ?_⟩
  have hb : (Value.slice A' (l.length + 1) c').ownBlock = some k := by
    cases A' with
    | none => simp [At] at hk
    | some ad => simpa [At, Value.ownBlock] using hk
  rcases h5 with h5 | h5
  · rw [h5] at hb; exact .inl (OwnV.blk_addr hb)
  · rw [h5] at hb; injection hb with hb; exact .inr hb.symm

theorem wpList_append_t {ops : Array Oper} {rest : List Oper} {o : Oper} {a : Act} {Q : Exit → Act → World → Prop} {w : World} {e : TypeId} {z : Value} (t : TypeId) (hgd : o.guard = none) (s x : Operand)
    (ho : o.op = .call { callee := .builtin .append, args := #[s, x], argTypes := #[t, t] }) (ht : Try.prog.underlying t = some (.slice e)) (hinfo : (Try.prog.info? e).map (fun i => (i.zero, i.size, i.bytes)) = some (some z, 3, 40)) (hzs : z.cells.size = 3)
    (base : Nat) (A : Option Addr) (n c : Nat) (l : List PT) (hs : a.eval s = .slice A n c) (hn : l.length = n) (hown : OwnT w base e A c l) (g : Nat) (p : PT) (hx : a.eval x = .slice (some ⟨g, 0, none⟩) 1 1) (hg : Blk w g e (ptC p).toArray)
    (hlen : n < 3000000) (hbase : base ≤ w.heap.size)
    (h : ∀ A' c' w', OwnT w' base e A' c' (l ++ [p]) → Mod (At A) w w' → (∀ k, At A' k → At A k ∨ k = w.heap.size) → wpList Try.prog ops Q rest (a.put o.dst (.slice A' (n + 1) c')) w') : wpList Try.prog ops Q (o :: rest) a w := by
  subst hn
  obtain ⟨A', c', w', hrun, h1, h2, h3⟩ := run_append_t (P := Try.prog) w base t o.type e z ht hinfo hzs A c l hown g p hg hlen hbase
  refine wpList_append_run w hgd s x #[t, t] ho (by rw [hs, hx]; exact hrun) (h A' c' w' h1 h2 h3)
end Go.Proofs.Ytcpiplfajgdohaa
