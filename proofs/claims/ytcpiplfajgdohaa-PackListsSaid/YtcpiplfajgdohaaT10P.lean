/- The state of the finder and how a round of learn changes it. Conditions: those of each theorem. -/
import Derived.Test.YtcpiplfajgdohaaT9
namespace Go.Proofs.Ytcpiplfajgdohaa
open Go.RowKit Go.Shelf

/-- whole numbers as values -/
def ints (ps : List Nat) : List Value := ps.map fun (p : Nat) => .int .i64 (p : Int)
theorem ints_length (ps : List Nat) : (ints ps).length = ps.length := by simp [ints]
theorem ints_append (xs ys : List Nat) : ints (xs ++ ys) = ints xs ++ ints ys := by simp [ints]
theorem ints_one (ps : List Nat) : ∀ u ∈ ints ps, u.oneCell' = true := by
  intro u hu
  simp only [ints, List.mem_map] at hu
  obtain ⟨x, _, rfl⟩ := hu
  rfl
theorem info3 : (Try.prog.info? 3).map (fun i => (i.zero, i.size, i.bytes)) = some (some (.int .i64 0), 1, 8) := by kernel_rfl

/-- The places before kn at which the four bytes k stand. -/
def posOf (all : List UInt8) (kn : Nat) (k : List UInt8) : List Nat := (List.range kn).filter fun p => (all.drop p).take 4 == k
theorem posOf_succ (all : List UInt8) (kn : Nat) (k : List UInt8) : posOf all (kn + 1) k = posOf all kn k ++ (if (all.drop kn).take 4 == k then [kn] else []) := by
  unfold posOf
  rw [List.range_succ, List.filter_append]
  simp only [List.filter_cons, List.filter_nil]
theorem posOf_length (all : List UInt8) (kn : Nat) (k : List UInt8) : (posOf all kn k).length ≤ kn := by
  unfold posOf
  exact Nat.le_trans (List.length_filter_le _ _) (by simp)

/-- What the entries say of the places before kn. -/
structure Cont (all : List UInt8) (kn : Nat) (l : List PE) : Prop where
  k4 : ∀ e ∈ l, e.k.length = 4
  nodup : (l.map (·.k)).Nodup
  ps : ∀ e ∈ l, e.ps = posOf all kn e.k
  some_ : ∀ k, k.length = 4 → posOf all kn k ≠ [] → ∃ e ∈ l, e.k = k

/-- The finder at block F, its map at block M. -/
structure Fd (w : World) (base F M : Nat) (Aa : Option Addr) (ca : Nat) (all : List UInt8) (kn : Nat) (l : List PE) : Prop where
  blk : Blk w F 61 #[.slice Aa all.length ca, .map (some M), .int .i64 (kn : Int)]
  own : OwnB w base Aa ca all
  map : MapB w M l
  rows : ∀ e ∈ l, OwnV w base 3 (.slice e.A e.ps.length e.c) (ints e.ps)
  apart : ∀ (i j : Nat) (ei ej : PE), l[i]? = some ei → l[j]? = some ej → i ≠ j → ∀ k, At ei.A k → ¬ At ej.A k
  cont : Cont all kn l
  bF : base ≤ F
  bM : base ≤ M

/-- What the finder may change: its own block, its map, its rows of places. -/
def Sf (F M : Nat) (l : List PE) (k : Nat) : Prop := k = F ∨ k = M ∨ ∃ e ∈ l, At e.A k
/-- The rows of l' are those of l, or new. -/
def Gr (w : World) (l l' : List PE) : Prop := ∀ e' ∈ l', ∀ k, At e'.A k → (∃ e ∈ l, At e.A k) ∨ w.heap.size ≤ k
theorem Gr.refl (w : World) (l : List PE) : Gr w l l := fun e he k hk => .inl ⟨e, he, hk⟩
theorem Gr.trans {w w1 : World} {l l1 l2 : List PE} (h : Gr w l l1) (k : Gr w1 l1 l2) (hs : w.heap.size ≤ w1.heap.size) : Gr w l l2 := fun e he i hi => by
  rcases k e he i hi with ⟨e1, he1, hi1⟩ | h1
  · exact h e1 he1 i hi1
  · exact .inr (Nat.le_trans hs h1)
theorem Sf.trans {w w1 w2 : World} {F M : Nat} {l l1 : List PE} (h : Mod (Sf F M l) w w1) (k : Mod (Sf F M l1) w1 w2) (g : Gr w l l1) : Mod (Sf F M l) w w2 := by
  refine h.trans k (fun i hi e => ?_)
  rcases e with e | e | ⟨e1, he1, e⟩
  · exact .inl e
  · exact .inr (.inl e)
  · rcases g e1 he1 i e with e | e
    · exact .inr (.inr e)
    · omega

/-- Where the known places end. -/
def kOf (w : World) (F : Nat) : Nat := match w.cell? ⟨F, 2, none⟩ with | some (.int _ n) => n.toNat | _ => 0
theorem Fd.kOf {w : World} {base F M : Nat} {Aa : Option Addr} {ca : Nat} {all : List UInt8} {kn : Nat} {l : List PE} (h : Fd w base F M Aa ca all kn l) : kOf w F = kn := by
  unfold Ytcpiplfajgdohaa.kOf
  rw [h.blk.cell 2 _ rfl]
  simp

theorem four_cells {w : World} {b o n c kn : Nat} {all : List UInt8} {x0 x1 x2 x3 : UInt8} (h : RdB w (some ⟨b, o, none⟩) n c all) (hx : (all.drop kn).take 4 = [x0, x1, x2, x3]) :
    w.cell? ⟨b, o + kn, none⟩ = some (.int .u8 x0.toNat) ∧ w.cell? ⟨b, o + kn + 1, none⟩ = some (.int .u8 x1.toNat) ∧ w.cell? ⟨b, o + kn + 2, none⟩ = some (.int .u8 x2.toNat) ∧ w.cell? ⟨b, o + kn + 3, none⟩ = some (.int .u8 x3.toNat) := by
  have hg : ∀ i (x : UInt8), [x0, x1, x2, x3][i]? = some x → w.cell? ⟨b, o + (kn + i), none⟩ = some (.int .u8 x.toNat) := by
    intro i x hi
    rw [← hx, List.getElem?_take] at hi
    split at hi
    · rw [List.getElem?_drop] at hi
      refine RdV.at_ h (kn + i) _ ?_
      rw [show bts all = all.map B8 from rfl, List.getElem?_map, hi]
      rfl
    · cases hi
  have h0 := hg 0 x0 rfl
  have h1 := hg 1 x1 rfl
  have h2 := hg 2 x2 rfl
  have h3 := hg 3 x3 rfl
  rw [Nat.add_zero] at h0
  rw [← Nat.add_assoc] at h1 h2 h3
  exact ⟨h0, h1, h2, h3⟩

theorem OwnV.at_ne_map {w : World} {base : Nat} {e : TypeId} {A : Option Addr} {n c : Nat} {vs : List Value} {M : Nat} {l : List PE} (h : OwnV w base e (.slice A n c) vs) (hM : MapB w M l) : ¬ At A M := by
  intro hk
  obtain ⟨t, cs, hb⟩ := OwnV.at_blk h M hk
  unfold Blk at hb
  unfold MapB at hM
  rw [hM] at hb
  cases hb

theorem putObj_mod {w : World} {M : Nat} {o : Obj} : Mod (fun k => k = M) w (w.putObj M o) :=
  ⟨rfl, rfl, rfl, by simp [World.putObj], fun k _ hk => World.putObj_heap_other hk⟩
theorem putObj_map {w : World} {M : Nat} {l l' : List PE} (h : MapB w M l) : MapB (w.putObj M (.map (mEnt 0 l').toArray l'.length)) M l' :=
  World.putObj_heap_same h.lt

/-- The rows of the entries. -/
def Rows_ (w : World) (base : Nat) (l : List PE) : Prop := ∀ e ∈ l, OwnV w base 3 (.slice e.A e.ps.length e.c) (ints e.ps)
def Apart_ (l : List PE) : Prop := ∀ (i j : Nat) (ei ej : PE), l[i]? = some ei → l[j]? = some ej → i ≠ j → ∀ k, At ei.A k → ¬ At ej.A k

theorem learn_entry {W2 : World} {base M : Nat} {all : List UInt8} {kn : Nat} {l : List PE} {key : List UInt8} (hM : MapB W2 M l) (hc : Cont all kn l) (hr : Rows_ W2 base l) (ha : Apart_ l) (hk : key.length = 4) :
    ∃ W3 l2 j e2, (Instr.mapEntry 59 (.map (some M)) (kv key)).run Try.prog W2 = .ok (.tuple #[.slice e2.A e2.ps.length e2.c, .int .i64 (j : Nat)]) W3 ∧ MapB W3 M l2 ∧ l2[j]? = some e2 ∧ e2.k = key ∧ Mod (fun k => k = M) W2 W3 ∧ Cont all kn l2 ∧ Rows_ W3 base l2 ∧ Apart_ l2 ∧ (∀ e ∈ l2, ∀ k, At e.A k → ∃ e0 ∈ l, At e0.A k) := by
  by_cases h : ∃ e ∈ l, e.k = key
  · obtain ⟨e, he, hek⟩ := h
    obtain ⟨j, hj⟩ := List.getElem?_of_mem he
    exact ⟨W2, l, j, e, run_mapEntry_some W2 hM hk hc.k4 hc.nodup hj hek, hM, hj, hek, Mod.refl _ _, hc, hr, ha, fun e he k hk => ⟨e, he, hk⟩⟩
  · have hne : ∀ e ∈ l, e.k ≠ key := fun e he hek => h ⟨e, he, hek⟩
    have hpos : posOf all kn key = [] := by
      apply Classical.byContradiction
      intro hp
      exact h (hc.some_ key hk hp)
    refine ⟨_, l ++ [(⟨key, [], none, 0⟩ : PE)], l.length, ⟨key, [], none, 0⟩, run_mapEntry_none W2 hM hk hc.k4 hne, putObj_map hM, by simp, rfl, putObj_mod, ⟨?_, ?_, ?_, ?_⟩, ?_, ?_, ?_⟩
    · intro e he
      rcases List.mem_append.1 he with he | he
      · exact hc.k4 e he
      · rw [List.mem_singleton] at he; subst he; exact hk
    · rw [List.map_append, List.nodup_append]
      refine ⟨hc.nodup, by simp, ?_⟩
      intro a ha b hb
      obtain ⟨e, he, rfl⟩ := List.mem_map.1 ha
      simp at hb
      subst hb
      exact hne e he
    · intro e he
      rcases List.mem_append.1 he with he | he
      · exact hc.ps e he
      · rw [List.mem_singleton] at he; subst he; exact hpos.symm
    · intro k hk4 hp
      obtain ⟨e, he, hek⟩ := hc.some_ k hk4 hp
      exact ⟨e, List.mem_append_left _ he, hek⟩
    · intro e he
      rcases List.mem_append.1 he with he | he
      · exact OwnV.keep (hr e he) putObj_mod (fun k hk e' => by subst e'; exact OwnV.at_ne_map (hr e he) hM hk)
      · rw [List.mem_singleton] at he; subst he; exact OwnV.nil _ _ _
    · intro i j ei ej hi hj hij k hki hkj
      rw [List.getElem?_append] at hi hj
      split at hi <;> split at hj
      · exact ha i j ei ej hi hj hij k hki hkj
      · have : ej = ⟨key, [], none, 0⟩ := by
          have := List.mem_of_getElem? hj
          simpa using this
        subst this
        simp [At] at hkj
      · have : ei = ⟨key, [], none, 0⟩ := by
          have := List.mem_of_getElem? hi
          simpa using this
        subst this
        simp [At] at hki
      · rename_i h1 h2
        obtain ⟨h3, _⟩ := List.getElem?_eq_some_iff.1 hi
        obtain ⟨h4, _⟩ := List.getElem?_eq_some_iff.1 hj
        simp at h3 h4
        omega
    · intro e he k hk
      rcases List.mem_append.1 he with he | he
      · exact ⟨e, he, hk⟩
      · rw [List.mem_singleton] at he
        subst he
        simp [At] at hk

/-- Behind the append: one more place is known. -/
theorem cont_step {all : List UInt8} {kn : Nat} {l2 : List PE} {key : List UInt8} {j : Nat} {e2 : PE} (A : Option Addr) (c : Nat) (hc : Cont all kn l2) (hj : l2[j]? = some e2) (hek : e2.k = key) (hkey : (all.drop kn).take 4 = key) : Cont all (kn + 1) (l2.set j ⟨key, e2.ps ++ [kn], A, c⟩) := by
  have hmap : (l2.set j ⟨key, e2.ps ++ [kn], A, c⟩).map (·.k) = l2.map (·.k) := by
    rw [List.map_set]
    apply List.ext_getElem?
    intro i
    rw [List.getElem?_set]
    split
    · rename_i hi
      subst hi
      rw [if_pos (by rw [List.length_map]; exact (List.getElem?_eq_some_iff.1 hj).1), List.getElem?_map, hj, Option.map_some, hek]
    · rfl
  have hmem : ∀ e ∈ l2.set j ⟨key, e2.ps ++ [kn], A, c⟩, e = ⟨key, e2.ps ++ [kn], A, c⟩ ∨ (∃ i, i ≠ j ∧ l2[i]? = some e) := by
    intro e he
    obtain ⟨i, hi⟩ := List.getElem?_of_mem he
    rw [List.getElem?_set] at hi
    split at hi
    · split at hi
      · exact .inl (Option.some.inj hi).symm
      · cases hi
    · rename_i hij; exact .inr ⟨i, fun e => hij e.symm, hi⟩
  refine ⟨?_, by rw [hmap]; exact hc.nodup, ?_, ?_⟩
  · intro e he
    rcases hmem e he with rfl | ⟨i, _, hi⟩
    · rw [← hek]; exact hc.k4 e2 (List.mem_of_getElem? hj)
    · exact hc.k4 e (List.mem_of_getElem? hi)
  · intro e he
    rcases hmem e he with rfl | ⟨i, hij, hi⟩
    · show e2.ps ++ [kn] = posOf all (kn + 1) key
      rw [posOf_succ, hc.ps e2 (List.mem_of_getElem? hj), hek, hkey]
      simp
    · rw [posOf_succ, hc.ps e (List.mem_of_getElem? hi), hkey]
      have : (key == e.k) = false := by
        rw [beq_eq_false_iff_ne]
        intro hh
        have h1 : (l2.map (·.k))[i]? = some key := by rw [List.getElem?_map, hi, hh]; rfl
        have h2 : (l2.map (·.k))[j]? = some key := by rw [List.getElem?_map, hj, ← hek]; rfl
        obtain ⟨g1, g1'⟩ := List.getElem?_eq_some_iff.1 h1
        obtain ⟨g2, g2'⟩ := List.getElem?_eq_some_iff.1 h2
        exact hij ((List.getElem_inj hc.nodup).1 (g1'.trans g2'.symm))
      simp [this]
  · intro k hk4 hp
    rw [posOf_succ] at hp
    by_cases hkk : key = k
    · exact ⟨⟨key, e2.ps ++ [kn], A, c⟩, List.mem_of_getElem? (i := j) (by rw [List.getElem?_set]; simp [(List.getElem?_eq_some_iff.1 hj).1]), hkk⟩
    · have : (key == k) = false := by simpa using hkk
      rw [hkey, this] at hp
      simp at hp
      obtain ⟨e, he, hek'⟩ := hc.some_ k hk4 hp
      have hm : k ∈ (l2.set j ⟨key, e2.ps ++ [kn], A, c⟩).map (·.k) := by rw [hmap]; exact List.mem_map.2 ⟨e, he, hek'⟩
      obtain ⟨e', he', hk'⟩ := List.mem_map.1 hm
      exact ⟨e', he', hk'⟩

theorem wp_append_i {o : Oper} {a : Act} {K : Act → World → Prop} {Q : Exit → Act → World → Prop} {w : World} (s x : Operand)
    (ho : o.op = .call { callee := .builtin .append, args := #[s, x], argTypes := #[77, 77] })
    (base : Nat) (A : Option Addr) (n c : Nat) (xs : List Nat) (hs : a.eval s = .slice A n c) (hn : xs.length = n) (hown : OwnV w base 3 (.slice A n c) (ints xs))
    (A2 : Option Addr) (m c2 : Nat) (ys : List Nat) (hx : a.eval x = .slice A2 m c2) (hr : RdV w A2 m c2 (ints ys))
    (hlen : n + m ≤ 17592186044416) (hbase : base ≤ w.heap.size)
    (h : ∀ A' c' w', OwnV w' base 3 (.slice A' (n + m) c') (ints (xs ++ ys)) → Mod (At A) w w' → (∀ k, At A' k → At A k ∨ k = w.heap.size) → K (a.put o.dst (.slice A' (n + m) c')) w') : o.wp Try.prog a w K Q := by
  subst hn
  refine wp_append_src w s x 77 ho base 3 (.int .i64 0) 8 Try.underlying77 info3 rfl (.slice A xs.length c) (ints xs) hs hown A2 m c2 (ints ys) hx hr (ints_one _) (by rw [ints_length]; simp only [maxLen]; omega) (by rw [ints_length]; omega) hbase ?_
  intro v w' hown' hg hb
  rw [← ints_append] at hown'
  have hm : ys.length = m := by have := hr.len; rwa [ints_length] at this
  obtain ⟨A', c', rfl, -, -, -, -⟩ := hown'.form
  rw [ints_length, List.length_append, hm] at hown' hb ⊢
  refine h A' c' w' hown' ((Mod.of_grown hg).mono (fun k _ hk => OwnV.blk_addr hk)) (fun k hk => ?_)
  have := OwnV.addr_blk hown' k hk
  rcases hb with hb | hb
  · rw [hb] at this; exact .inl (OwnV.blk_addr this)
  · rw [hb] at this; injection this with this; exact .inr this.symm


theorem OwnV.at_row {w : World} {base : Nat} {e : TypeId} {A : Option Addr} {n c : Nat} {vs : List Value} (h : OwnV w base e (.slice A n c) vs) : ∀ k, At A k → ∃ cs, Blk w k e cs := by
  intro k hk
  rcases h.2 with ⟨hv, _⟩ | ⟨g', cap, cur, hv, _, hh, _⟩
  · injection hv with h1
    subst h1
    simp [At] at hk
  · injection hv with h1
    subst h1
    have : g' = k := by simpa [At] using hk
    subst this
    exact ⟨cur, hh⟩
theorem Blk.ne_map {w : World} {g : Nat} {t : TypeId} {cs : Array Value} {M : Nat} {l : List PE} (h : Blk w g t cs) (hM : MapB w M l) : g ≠ M := by
  rintro rfl
  unfold Blk at h
  unfold MapB at hM
  rw [hM] at h
  cases h

theorem Fd.new {w w' : World} {base F M : Nat} {Aa : Option Addr} {ca : Nat} {all : List UInt8} {kn : Nat} {l : List PE} (h : Fd w base F M Aa ca all kn l) (hn : New w w') : Fd w' base F M Aa ca all kn l :=
  ⟨h.blk.new hn, OwnV.new h.own hn, h.map.mod hn (fun h => h), fun e he => OwnV.new (h.rows e he) hn, h.apart, h.cont, h.bF, h.bM⟩

/-- Behind the round's effects. -/
theorem learn_mid {w W2 W3 : World} {base F M : Nat} {Aa : Option Addr} {ca : Nat} {all : List UInt8} {kn : Nat} {l l2 : List PE} {j : Nat} {e2 : PE} (h : Fd w base F M Aa ca all kn l) (hn : New w W2)
    (hM3 : MapB W3 M l2) (hj : l2[j]? = some e2) (hm3 : Mod (fun k => k = M) W2 W3) (hr3 : Rows_ W3 base l2) (ha : Apart_ l2) (hg2 : ∀ e ∈ l2, ∀ k, At e.A k → ∃ e0 ∈ l, At e0.A k)
    {W4 : World} {A' : Option Addr} {c' : Nat} (hown : OwnV W4 base 3 (.slice A' (e2.ps.length + 1) c') (ints (e2.ps ++ [kn]))) (hm4 : Mod (At e2.A) W3 W4) (hk4 : ∀ k, At A' k → At e2.A k ∨ k = W3.heap.size) :
    MapB W4 M l2 ∧ Mod (Sf F M l) w W4 ∧ Blk W4 F 61 #[.slice Aa all.length ca, .map (some M), .int .i64 (kn : Int)] ∧ OwnB W4 base Aa ca all ∧ (∀ i e, l2[i]? = some e → i ≠ j → OwnV W4 base 3 (.slice e.A e.ps.length e.c) (ints e.ps)) ∧
    (∀ i e, l2[i]? = some e → i ≠ j → ∀ k, At e.A k → ¬ At A' k) ∧ base ≤ W4.heap.size := by
  have he := hr3 e2 (List.mem_of_getElem? hj)
  have hM := h.map.mod hn (fun h => h)
  have hF := h.blk.new hn
  have hF3 := hF.mod hm3 (hF.ne_map hM)
  have ho := OwnV.new h.own hn
  have ho3 := OwnV.keep ho hm3 (fun k hk e => by subst e; exact OwnV.at_ne_map ho hM hk)
  have hsep : ∀ k, At Aa k → ¬ At e2.A k := fun k hk hk' => by
    obtain ⟨cs, hb⟩ := OwnV.at_row ho3 k hk
    exact OwnV.at_ne he hb (by decide) hk'
  have hb3 : base ≤ W3.heap.size := by have := hn.size; have := hm3.size; have := h.bF; have := h.blk.lt; omega
  refine ⟨hM3.mod hm4 (OwnV.at_ne_map he hM3), ?_, hF3.mod hm4 (OwnV.at_ne he hF3 (by decide)), OwnV.keep ho3 hm4 hsep, ?_, ?_, Nat.le_trans hb3 hm4.size⟩
  · have h3 : Mod (fun k => k = M) w W3 := (Mod.new hn).trans hm3 (fun _ _ e => e)
    exact (h3.mono (T := Sf F M l) (fun k _ e => .inr (.inl e))).trans hm4 (fun k hk e => .inr (.inr (hg2 e2 (List.mem_of_getElem? hj) k e)))
  · intro i e hi hij
    refine OwnV.keep (hr3 e (List.mem_of_getElem? hi)) hm4 (fun k hk hk' => ?_)
    exact ha i j e e2 hi hj hij k hk hk'
  · intro i e hi hij k hk hk'
    rcases hk4 k hk' with h1 | h1
    · exact ha i j e e2 hi hj hij k hk h1
    · have := (OwnV.at_base (hr3 e (List.mem_of_getElem? hi)) k hk).2
      omega

/-- A round of learn, at its end. -/
theorem learn_end {w W2 W3 W4 : World} {base F M : Nat} {Aa : Option Addr} {ca : Nat} {all : List UInt8} {kn : Nat} {l l2 : List PE} {j : Nat} {e2 : PE} (h : Fd w base F M Aa ca all kn l) (hn : New w W2)
    (hM3 : MapB W3 M l2) (hj : l2[j]? = some e2) (hkey : (all.drop kn).take 4 = e2.k) (hm3 : Mod (fun k => k = M) W2 W3) (hc3 : Cont all kn l2) (hr3 : Rows_ W3 base l2) (ha : Apart_ l2) (hg2 : ∀ e ∈ l2, ∀ k, At e.A k → ∃ e0 ∈ l, At e0.A k)
    {A' : Option Addr} {c' : Nat} (hown : OwnV W4 base 3 (.slice A' (e2.ps.length + 1) c') (ints (e2.ps ++ [kn]))) (hm4 : Mod (At e2.A) W3 W4) (hk4 : ∀ k, At A' k → At e2.A k ∨ k = W3.heap.size)
    {W5 W6 : World} (h5 : W5 = W4.putObj M (.map (mEnt 0 (l2.set j ⟨e2.k, e2.ps ++ [kn], A', c'⟩)).toArray (l2.set j ⟨e2.k, e2.ps ++ [kn], A', c'⟩).length)) (h6 : New W5 W6) :
    Fd (W6.setCell ⟨F, 2, none⟩ (.int .i64 ((kn + 1 : Nat) : Int))) base F M Aa ca all (kn + 1) (l2.set j ⟨e2.k, e2.ps ++ [kn], A', c'⟩) ∧ Mod (Sf F M l) w (W6.setCell ⟨F, 2, none⟩ (.int .i64 ((kn + 1 : Nat) : Int))) ∧ Gr w l (l2.set j ⟨e2.k, e2.ps ++ [kn], A', c'⟩) := by
  obtain ⟨m1, m2, m3, m4, m5, m6, m7⟩ := learn_mid h hn hM3 hj hm3 hr3 ha hg2 hown hm4 hk4
  have p5 : Mod (fun k => k = M) W4 W6 := by
    subst h5
    exact (putObj_mod (w := W4) (M := M)).trans h6 (fun _ _ h => h.elim)
  have hMap5 : MapB W6 M (l2.set j ⟨e2.k, e2.ps ++ [kn], A', c'⟩) := by
    subst h5
    exact (putObj_map m1).mod h6 (fun h => h)
  have hB6 : Blk W6 F 61 #[.slice Aa all.length ca, .map (some M), .int .i64 (kn : Int)] := m3.mod p5 (m3.ne_map m1)
  have hFM : F ≠ M := m3.ne_map m1
  have p7 : Mod (fun k => k = M ∨ k = F) W4 (W6.setCell ⟨F, 2, none⟩ (.int .i64 ((kn + 1 : Nat) : Int))) :=
    (p5.mono (fun k _ e => .inl e)).setCell ⟨F, 2, none⟩ _ (fun _ => .inr rfl)
  have keep : ∀ {A : Option Addr} {n c : Nat} {e : TypeId} {vs : List Value}, e ≠ 61 → OwnV W4 base e (.slice A n c) vs → OwnV (W6.setCell ⟨F, 2, none⟩ (.int .i64 ((kn + 1 : Nat) : Int))) base e (.slice A n c) vs := by
    intro A n c e vs hne ho
    refine OwnV.keep ho p7 (fun k hk e' => ?_)
    rcases e' with e' | e'
    · subst e'; exact OwnV.at_ne_map ho m1 hk
    · subst e'; exact OwnV.at_ne ho m3 hne hk
  have hget : ∀ (i : Nat) (e : PE), (l2.set j ⟨e2.k, e2.ps ++ [kn], A', c'⟩)[i]? = some e → (i = j ∧ e = ⟨e2.k, e2.ps ++ [kn], A', c'⟩) ∨ (i ≠ j ∧ l2[i]? = some e) := by
    intro i e hi
    rw [List.getElem?_set] at hi
    split at hi
    · rename_i hij
      split at hi
      · exact .inl ⟨hij.symm, (Option.some.inj hi).symm⟩
      · cases hi
    · rename_i hij; exact .inr ⟨fun e => hij e.symm, hi⟩
  refine ⟨⟨?_, keep (by decide) m4, ?_, ?_, ?_, cont_step A' c' hc3 hj rfl hkey, h.bF, h.bM⟩, m2.trans p7 (fun k hk e => ?_), ?_⟩
  · exact hB6.put 2 _
  · exact hMap5.mod (S := fun k => k = F) ((Mod.refl _ W6).setCell ⟨F, 2, none⟩ _ (fun _ => rfl)) (fun e => hFM e.symm)
  · intro e he
    obtain ⟨i, hi⟩ := List.getElem?_of_mem he
    rcases hget i e hi with ⟨_, rfl⟩ | ⟨hij, hi'⟩
    · refine keep (by decide) ?_
      have : (e2.ps ++ [kn]).length = e2.ps.length + 1 := by simp
      rw [this]
      exact hown
    · exact keep (by decide) (m5 i e hi' hij)
  · intro i i' ei ej hi hi' hne k hk hk'
    rcases hget i ei hi with ⟨e1, rfl⟩ | ⟨hij, g1⟩ <;> rcases hget i' ej hi' with ⟨e1', rfl⟩ | ⟨hij', g1'⟩
    · omega
    · exact m6 i' ej g1' hij' k hk' hk
    · exact m6 i ei g1 hij k hk hk'
    · exact ha i i' ei ej g1 g1' hne k hk hk'
  · rcases e with e | e
    · exact .inr (.inl e)
    · exact .inl e
  · intro e he k hk
    obtain ⟨i, hi⟩ := List.getElem?_of_mem he
    rcases hget i e hi with ⟨_, rfl⟩ | ⟨hij, hi'⟩
    · rcases hk4 k hk with h1 | h1
      · exact .inl (hg2 e2 (List.mem_of_getElem? hj) k h1)
      · refine .inr ?_
        have := hn.size
        have := hm3.size
        omega
    · exact .inl (hg2 e (List.mem_of_getElem? hi') k hk)
theorem rd_onei (w : World) (y : Nat) : RdV (w.alloc (.cells #[.int .i64 (y : Int)] 3)) (some ⟨w.heap.size, 0, none⟩) 1 1 (ints [y]) :=
  ⟨rfl, Nat.le_refl _, fun _ => ⟨_, _, rfl, fun j u hu => by
    have := (Blk.fresh w 3 #[.int .i64 (y : Int)]).cell (0 + j) u
    rw [Nat.zero_add] at this ⊢
    exact this (by simpa [ints] using hu)⟩⟩
end Go.Proofs.Ytcpiplfajgdohaa
