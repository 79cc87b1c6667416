/- A row of numbers that grows; Pages. Conditions: those of each theorem. -/
import Derived.Test.YtkdlmnhkbockhaaU1
namespace Go.Proofs.Ytkdlmnhkbockhaa
open Go.RowKit

def At (A : Option Addr) (k : Nat) : Prop := A.map (·.block) = some k
theorem OwnV.addr_blk {w : World} {base : Nat} {e : TypeId} {A : Option Addr} {n c : Nat} {vs : List Value} (h : OwnV w base e (.slice A n c) vs) : ∀ k, At A k → (.slice A n c : Value).ownBlock = some k := by
  obtain ⟨A', c', hv, -, -, -, hb⟩ := h.form
  injection hv with h1 h2 h3
  subst h1 h2 h3
  intro k hk
  rw [hb]; exact hk
theorem OwnV.blk_addr {A : Option Addr} {n c k : Nat} (h : (.slice A n c : Value).ownBlock = some k) : At A k := by
  cases A with
  | none => simp [Value.ownBlock] at h
  | some ad => simpa [Value.ownBlock, At] using h
theorem OwnV.at_ne {w : World} {base : Nat} {e : TypeId} {A : Option Addr} {n c : Nat} {vs : List Value} {g : Nat} {t : TypeId} {cs : Array Value} (h : OwnV w base e (.slice A n c) vs) (hb : Blk w g t cs) (hne : e ≠ t) : ¬ At A g :=
  fun hk => h.ne_blk hb hne g (h.addr_blk g hk) rfl
theorem OwnV.at_base {w : World} {base : Nat} {e : TypeId} {A : Option Addr} {n c : Nat} {vs : List Value} (h : OwnV w base e (.slice A n c) vs) : ∀ k, At A k → base ≤ k ∧ k < w.heap.size :=
  fun k hk => h.block_base k (h.addr_blk k hk)
theorem OwnV.keep {S : Nat → Prop} {w w' : World} {base : Nat} {e : TypeId} {A : Option Addr} {n c : Nat} {vs : List Value} (h : OwnV w base e (.slice A n c) vs) (hm : Mod S w w') (hS : ∀ k, At A k → ¬ S k) : OwnV w' base e (.slice A n c) vs :=
  h.mod hm (fun k hk => hS k (OwnV.blk_addr hk))
def ints (ps : List Nat) : List Value := ps.map fun (p : Nat) => .int .i64 (p : Int)
theorem ints_length (ps : List Nat) : (ints ps).length = ps.length := by simp [ints]
theorem ints_append (xs ys : List Nat) : ints (xs ++ ys) = ints xs ++ ints ys := by simp [ints]
theorem ints_one (ps : List Nat) : ∀ u ∈ ints ps, u.oneCell' = true := by
  intro u hu
  simp only [ints, List.mem_map] at hu
  obtain ⟨x, _, rfl⟩ := hu
  rfl
theorem info3 : (Try.prog.info? 3).map (fun i => (i.zero, i.size, i.bytes)) = some (some (.int .i64 0), 1, 8) := by kernel_rfl

/-- append of one number. -/
theorem wpList_append_i {ops : Array Oper} {rest : List Oper} {o : Oper} {a : Act} {Q : Exit → Act → World → Prop} {w : World} (hgd : o.guard = none) (s x : Operand)
    (ho : o.op = .call { callee := .builtin .append, args := #[s, x], argTypes := #[55, 55] })
    (base : Nat) (A : Option Addr) (n c : Nat) (xs : List Nat) (hs : a.eval s = .slice A n c) (hn : xs.length = n) (hown : OwnV w base 3 (.slice A n c) (ints xs))
    (g y : Nat) (hx : a.eval x = .slice (some ⟨g, 0, none⟩) 1 1) (hg : Blk w g 3 #[.int .i64 (y : Int)])
    (hlen : n ≤ 1000000) (hbase : base ≤ w.heap.size)
    (h : ∀ A' c' w', OwnV w' base 3 (.slice A' (n + 1) c') (ints (xs ++ [y])) → Mod (At A) w w' → (∀ k, At A' k → At A k ∨ k = w.heap.size) → wpList Try.prog ops Q rest (a.put o.dst (.slice A' (n + 1) c')) w') : wpList Try.prog ops Q (o :: rest) a w := by
  subst hn
  have hr : RdV w (some ⟨g, 0, none⟩) 1 1 (ints [y]) := ⟨rfl, Nat.le_refl _, fun _ => ⟨g, 0, rfl, fun j u hu => by
    rw [Nat.zero_add]
    exact hg.cell j u (by simpa [ints] using hu)⟩⟩
  refine wpList_append_src w hgd s x 55 ho base 3 (.int .i64 0) 8 Try.underlying55 info3 rfl (.slice A xs.length c) (ints xs) hs hown (some ⟨g, 0, none⟩) 1 1 (ints [y]) hx hr (ints_one _) (by rw [ints_length]; simp only [maxLen]; omega) (by rw [ints_length]; omega) hbase ?_
  intro v w' hown' hg' hb
  rw [← ints_append] at hown'
  obtain ⟨A', c', rfl, -, -, -, -⟩ := hown'.form
  rw [ints_length, List.length_append] at hown' hb ⊢
  refine h A' c' w' hown' ((Mod.of_grown hg').mono (fun k _ hk => OwnV.blk_addr hk)) (fun k hk => ?_)
  have := OwnV.addr_blk hown' k hk
  rcases hb with hb | hb
  · rw [hb] at this; exact .inl (OwnV.blk_addr this)
  · rw [hb] at this; injection this with this; exact .inr this.symm

theorem Spi.farMod {A : Ask} {w w' : World} {S : Nat} {ps : List Pg} {fr : Nat → List UInt8} {log : List Nat} {D : Nat → Prop} (h : Spi A w S ps fr log) (hm : Mod D w w') (hD : ∀ i, i < w.heap.size → D i → i ≠ S ∧ ¬ RefF ps i ∧ ¬ A.T i) : Spi A w' S ps fr log :=
  ⟨h.sp.mod hm (fun hd => (hD _ h.sp.blk.lt hd).1 rfl) (fun p hp g hg hd => (hD g (h.sp.frm p hp g hg).1.lt hd).2.1 ⟨p, hp, hg⟩), h.excl, h.unk, A.stay _ _ _ _ h.j hm (fun i hi hd => (hD i hi hd).2.2), h.far, h.lg⟩
theorem Stp.row {A : Ask} {w w1 w2 : World} {S : Nat} {ps ps' : List Pg} {fr fr' : Nat → List UInt8} {D : Nat → Prop} (h : Stp A w w1 S ps ps' fr fr') (hm : Mod D w1 w2) (hD : ∀ i, D i → w.heap.size ≤ i) : Stp A w w2 S ps ps' fr fr' :=
  ⟨⟨h.mod.trans hm (fun i hi hd => by have := hD i hd; omega), h.own, h.ref, h.fr⟩, h.keep, h.len⟩

theorem After.mod {A : Ask} {w w' : World} {S : Nat} {ps : List Pg} {fr : Nat → List UInt8} {s : VS} (h : After A w w' S ps fr s) : Mod (fun i => i = S ∨ OwnF ps i ∨ A.T i) w w' := by
  obtain ⟨_, _, _, _, h3⟩ := h
  exact h3.mod

/-- The pages that are there, as they are asked one after the other. -/
def pagesN (A : Ask) : Nat → VS → List Nat × VS
  | 0, s => ([], s)
  | j + 1, s => (if thereS (needS A j (pagesN A j s).2) j then (pagesN A j s).1 ++ [j] else (pagesN A j s).1, needS A j (pagesN A j s).2)
theorem pagesN_le (A : Ask) (s : VS) : ∀ j, (pagesN A j s).1.length ≤ j
  | 0 => Nat.le_refl _
  | j + 1 => by
    have := pagesN_le A s j
    unfold pagesN
    dsimp only
    split
    · rw [List.length_append]
      simp
      exact this
    · omega

set_option maxRecDepth 100000 in
set_option maxHeartbeats 1000000 in
theorem pages_ok {A : Ask} (hA : NeedOk A) (S : Nat) (ps : List Pg) (fr : Nat → List UInt8) (log : List Nat) (w : World) (h : Spi A w S ps fr log) :
    Calls Try.prog 32 #[.pointer (some ⟨S, 0, none⟩)] w fun e w' => (∃ Ao c, e = .returned (.slice Ao (pagesN A 64 (vps ps fr, log)).1.length c) ∧ OwnV w' w.heap.size 3 (.slice Ao (pagesN A 64 (vps ps fr, log)).1.length c) (ints (pagesN A 64 (vps ps fr, log)).1)) ∧ After A w w' S ps fr (pagesN A 64 (vps ps fr, log)).2 := by
  have H := Lib.hid h
  clear h
  go_enter Try.func32, Try.ntmps32
  go_wp2
  go_loopw [3, 5] (fun o i wr => ∃ j : Nat, i = .int .i64 (j : Int) ∧ j ≤ 64 ∧ ∃ Ao n c, o = .slice Ao n c ∧ Hid ((pagesN A j (vps ps fr, log)).1.length = n ∧ OwnV wr w.heap.size 3 (.slice Ao n c) (ints (pagesN A j (vps ps fr, log)).1) ∧ After A w wr S ps fr (pagesN A j (vps ps fr, log)).2)) (fun _ i _ => 64 - (intOf i).toNat)
  case atStart => exact ⟨0, rfl, by omega, none, 0, 0, rfl, rfl, OwnV.nil _ _ _, ps, fr, H.out, rfl, Stp.refl _ _ _ _ _⟩
  case round =>
    obtain ⟨j, rfl, hj, Ao, n, c, rfl, HC⟩ := hrel
    by_cases hlt : (j : Int) < 64
    · obtain ⟨hn, hown, ps1, fr1, hsp1, hv1, hst1⟩ := HC.out
      have hh := has_ok hA S ps1 fr1 _ j wr hsp1
      obtain ⟨s1, hs1⟩ : ∃ s1, (pagesN A j (vps ps fr, log)).2 = s1 := ⟨_, rfl⟩
      obtain ⟨l1, hl1⟩ : ∃ l1, (pagesN A j (vps ps fr, log)).1 = l1 := ⟨_, rfl⟩
      rw [hs1] at hsp1 hv1 hh
      rw [hl1] at hn hown
      rw [hv1, show (s1.1, s1.2) = s1 from rfl, hasP, if_neg (by omega), Int.toNat_natCast] at hh
      have hpn : pagesN A (j + 1) (vps ps fr, log) = (if thereS (needS A j s1) j then l1 ++ [j] else l1, needS A j s1) := by rw [pagesN, hs1, hl1]
      have hnle : n ≤ 64 := by rw [← hn, ← hl1]; have := pagesN_le A (vps ps fr, log) j; omega
      have hwS := H.out.sp.blk.lt
      have hsz := hst1.mod.size
      -- the row is none of the blocks that Has may change
      have hkeep : ∀ w2, Mod (fun i => i = S ∨ OwnF ps1 i ∨ A.T i) wr w2 → OwnV w2 w.heap.size 3 (.slice Ao n c) (ints l1) := fun w2 hm => hown.keep hm fun k hk e => by
        have hb := hown.at_base k hk
        rcases e with e | ⟨p, hp, _, hc⟩ | e
        · omega
        · exact hown.at_ne (hsp1.sp.frm p hp k hc).1 (by decide) hk
        · have := A.old _ _ H.out.j k e
          omega
      have HS := Lib.hid (And.intro hn (And.intro hown (And.intro hsp1 (And.intro hv1 (And.intro hst1 (And.intro hpn hkeep))))))
      cases hth : thereS (needS A j s1) j with
      | true =>
        rw [hth] at hh hpn
        rw [if_pos rfl] at hpn
        have HH := Lib.hid (And.intro hh hpn)
        clear hn hown hsp1 hv1 hst1 hpn hkeep hh hth
        go_wp2_with (first
          | (go_at_call 31; with_reducible (refine HH.out.1.mono ?_); rintro e w2 ⟨rfl, haf⟩; have hsz2 := haf.mod.size; have H2 := Lib.hid haf; clear haf)
          | (at_builtin; refine wpList_append_i rfl _ _ rfl w.heap.size Ao n c l1 rfl HS.out.1 (OwnV.new (HS.out.2.2.2.2.2.2 w2 H2.out.mod) ((Mod.refl _ _).alloc _)) w2.heap.size j rfl (Blk.fresh _ _ _) (by omega) (Nat.le_trans (Nat.le_trans hsz hsz2) ((Mod.refl (fun _ => False) _).alloc _).size) ?_; intro A3 c3 w3 hown3 hm3 hk3; have H3 := Lib.hid (And.intro hown3 (And.intro hm3 hk3)); clear hown3 hm3 hk3))
        obtain ⟨hn, hown, hsp1, hv1, hst1, -, hkeep⟩ := HS.out
        obtain ⟨ps2, fr2, hsp2, hv2, hst2⟩ := H2.out
        obtain ⟨hown3, hm3, hk3⟩ := H3.out
        have hown2 := hkeep _ hst2.mod
        have hm23 : Mod (At Ao) w2 w3 := Mod.trans (T := At Ao) ((Mod.refl _ _).alloc _) hm3 fun i _ h => h
        have hspw := hsp2.farMod hm23 fun i hi hd => by
          have hb := hown2.at_base i hd
          refine ⟨fun e => by omega, fun ⟨p, hp, hc⟩ => hown2.at_ne (hsp2.sp.frm p hp i hc).1 (by decide) hd, fun e => ?_⟩
          have := A.old _ _ H.out.j i e
          omega
        refine ⟨⟨j + 1, by go_num, by omega, A3, n + 1, c3, rfl, ?_, ?_, ?_⟩, by simp [intOf]; omega⟩
        · rw [HH.out.2]; simp [hn]
        · rw [HH.out.2]; exact hown3
        · rw [HH.out.2]; exact ⟨ps2, fr2, hspw, hv2, (hst1.trans hst2).row hm23 fun i hi => (hown2.at_base i hi).1⟩
      | false =>
        rw [hth] at hh hpn
        rw [if_neg (by decide)] at hpn
        have HH := Lib.hid (And.intro hh hpn)
        clear hn hown hsp1 hv1 hst1 hpn hkeep hh hth
        go_wp2_with (first
          | (go_at_call 31; with_reducible (refine HH.out.1.mono ?_); rintro e w2 ⟨rfl, haf⟩; have H2 := Lib.hid haf; clear haf))
        obtain ⟨hn, hown, hsp1, hv1, hst1, -, hkeep⟩ := HS.out
        obtain ⟨ps2, fr2, hsp2, hv2, hst2⟩ := H2.out
        refine ⟨⟨j + 1, by go_num, by omega, Ao, n, c, rfl, ?_, ?_, ?_⟩, by simp [intOf]; omega⟩
        · rw [HH.out.2]; exact hn
        · rw [HH.out.2]; exact hkeep _ hst2.mod
        · rw [HH.out.2]; exact ⟨ps2, fr2, hsp2, hv2, hst1.trans hst2⟩
    · have hj : j = 64 := by omega
      subst hj
      go_wp2
      go_ret
      obtain ⟨hn, hown, haf⟩ := HC.out
      subst hn
      exact ⟨⟨Ao, c, rfl, hown⟩, haf⟩
end Go.Proofs.Ytkdlmnhkbockhaa
