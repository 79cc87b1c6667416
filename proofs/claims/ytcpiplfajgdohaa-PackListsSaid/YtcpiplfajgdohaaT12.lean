/- find answers what findB tells. Conditions: those of each theorem. -/
import Derived.Test.YtcpiplfajgdohaaT11
namespace Go.Proofs.Ytcpiplfajgdohaa
open Go.RowKit Go.Shelf

/-- How far a match goes on, n bytes being alike. -/
def ext (all : List UInt8) (at_ p : Nat) : Nat → Nat → Nat
  | 0, n => n
  | f + 1, n => if at_ + n < all.length ∧ all.getD (p + n) 0 = all.getD (at_ + n) 0 then ext all at_ p f (n + 1) else n
/-- One place is looked at. -/
def fstep (all : List UInt8) (at_ : Nat) (s : Nat × Nat) (p : Nat) : Nat × Nat := if s.2 < ext all at_ p 127 4 then (at_ - p, ext all at_ p 127 4) else s
def fnd (all : List UInt8) (at_ : Nat) : List Nat → Nat × Nat → Nat × Nat
  | [], s => s
  | p :: ps, s => if 4096 < at_ - p ∨ s.2 = 131 then s else fnd all at_ ps (fstep all at_ s p)
/-- What find answers. -/
def findB (all : List UInt8) (at_ : Nat) : Nat × Nat := if all.length < at_ + 4 then (0, 0) else fnd all at_ (posOf all at_ ((all.drop at_).take 4)).reverse (0, 0)

theorem find_lookup {w : World} {base M : Nat} {all : List UInt8} {kn : Nat} {l : List PE} {key : List UInt8} (hc : Cont all kn l) (hr : Rows_ w base l) (hk : key.length = 4) :
    ∃ A c, (∀ w', MapB w' M l → (Instr.lookup 59 (.map (some M)) (kv key) false).run Try.prog w' = .ok (.slice A (posOf all kn key).length c) w') ∧ OwnV w base 3 (.slice A (posOf all kn key).length c) (ints (posOf all kn key)) ∧ (∀ k, At A k → ∃ e ∈ l, At e.A k) := by
  by_cases h : ∃ e ∈ l, e.k = key
  · obtain ⟨e, he, hek⟩ := h
    obtain ⟨j, hj⟩ := List.getElem?_of_mem he
    have hps := hc.ps e he
    rw [hek] at hps
    refine ⟨e.A, e.c, fun w' hM => ?_, ?_, fun k hk => ⟨e, he, hk⟩⟩
    · rw [← hps]
      exact run_lookup_some w' hM hk hc.k4 hc.nodup hj hek
    · rw [← hps]
      exact hr e he
  · have hne : ∀ e ∈ l, e.k ≠ key := fun e he hek => h ⟨e, he, hek⟩
    have hpos : posOf all kn key = [] := by
      apply Classical.byContradiction
      intro hp
      exact h (hc.some_ key hk hp)
    rw [hpos]
    exact ⟨none, 0, fun w' hM => run_lookup_none w' hM hk hc.k4 hne, OwnV.nil _ _ _, fun k hk => by simp [At] at hk⟩

theorem res_cc {fn : Func} {p q : Tmp} (h : fn.results = #[.cell p 3, .cell q 3]) (tmps : Array Value) (w : World) (a b : Addr) (x y : Int)
    (hp : tmps.getD p undef = .pointer (some a)) (hq : tmps.getD q undef = .pointer (some b)) (hx : w.cell? a = some (.int .i64 x)) (hy : w.cell? b = some (.int .i64 y)) :
    (results fn tmps).run Try.prog w = .ok (.tuple #[.int .i64 x, .int .i64 y]) w := by
  have hp' : tmps[p]?.getD undef = .pointer (some a) := by simpa using hp
  have hq' : tmps[q]?.getD undef = .pointer (some b) := by simpa using hq
  have hu := Try.underlying3
  simp [results, h, hp', hq', asAddr, loadVar, run_underlying hu, hx, hy]

theorem Fd.not_Sf {w : World} {base F M : Nat} {Aa : Option Addr} {ca : Nat} {all : List UInt8} {kn : Nat} {l : List PE} (h : Fd w base F M Aa ca all kn l) {k : Nat} (hk : w.heap.size ≤ k) : ¬ Sf F M l k := by
  rintro (e | e | ⟨e, he, hk'⟩)
  · have := h.blk.lt; omega
  · have := h.map.lt; omega
  · have := (OwnV.at_base (h.rows e he) k hk').2; omega

theorem find_boxes {w W0 W1 : World} {base F M : Nat} {Aa : Option Addr} {ca : Nat} {all : List UInt8} {kn : Nat} {l : List PE} {til : Nat} (h : Fd w base F M Aa ca all kn l)
    (hB : New w W0 ∧ W0.heap.size = w.heap.size + 4 ∧ Blk W0 w.heap.size 75 #[.pointer (some ⟨F, 0, none⟩)] ∧ Blk W0 (w.heap.size + 1) 3 #[.int .i64 (til : Int)] ∧ Blk W0 (w.heap.size + 1 + 1) 3 #[.int .i64 0] ∧ Blk W0 (w.heap.size + 1 + 1 + 1) 3 #[.int .i64 0])
    (hm : Mod (Sf F M l) W0 W1) : Blk W1 w.heap.size 75 #[.pointer (some ⟨F, 0, none⟩)] ∧ Blk W1 (w.heap.size + 1) 3 #[.int .i64 (til : Int)] ∧ Blk W1 (w.heap.size + 1 + 1) 3 #[.int .i64 0] ∧ Blk W1 (w.heap.size + 1 + 1 + 1) 3 #[.int .i64 0] :=
  ⟨hB.2.2.1.mod hm (h.not_Sf (by omega)), hB.2.2.2.1.mod hm (h.not_Sf (by omega)), hB.2.2.2.2.1.mod hm (h.not_Sf (by omega)), hB.2.2.2.2.2.mod hm (h.not_Sf (by omega))⟩

theorem Fd.far {S : Nat → Prop} {w w' : World} {base F M : Nat} {Aa : Option Addr} {ca : Nat} {all : List UInt8} {kn : Nat} {l : List PE} (h : Fd w base F M Aa ca all kn l) (hm : Mod S w w') (hS : ∀ k, k < w.heap.size → S k → ¬ Sf F M l k ∧ ¬ At Aa k) : Fd w' base F M Aa ca all kn l :=
  ⟨h.blk.mod hm (fun e => (hS F h.blk.lt e).1 (.inl rfl)), OwnV.keep h.own hm (fun k hk e => (hS k (OwnV.at_base h.own k hk).2 e).2 hk), h.map.mod hm (fun e => (hS M h.map.lt e).1 (.inr (.inl rfl))),
    fun e he => OwnV.keep (h.rows e he) hm (fun k hk e' => (hS k (OwnV.at_base (h.rows e he) k hk).2 e').1 (.inr (.inr ⟨e, he, hk⟩))), h.apart, h.cont, h.bF, h.bM⟩

theorem find_end {w W0 W1 W : World} {base F M : Nat} {Aa : Option Addr} {ca : Nat} {all : List UInt8} {kn kn' : Nat} {l l' : List PE} {til : Nat} (h : Fd w base F M Aa ca all kn l) (hn : New w W0) (hsz : W0.heap.size = w.heap.size + 4)
    (h1 : Fd W1 base F M Aa ca all kn' l') (hm1 : Mod (Sf F M l) W0 W1) (hg1 : Gr W0 l l') (hk1 : kn' ≤ til)
    (hm : Mod (fun k => k = w.heap.size + 1 + 1 ∨ k = w.heap.size + 1 + 1 + 1) W1 W) : ∃ kn' l', Fd W base F M Aa ca all kn' l' ∧ Mod (Sf F M l) w W ∧ Gr w l l' ∧ kn' ≤ til := by
  refine ⟨kn', l', h1.far hm (fun k hk e => ?_), ((Mod.new hn).trans hm1 (fun _ _ e => e)).trans hm (fun k hk e => by omega), fun e he k hk => (hg1 e he k hk).imp id (fun h => by omega), hk1⟩
  have hk2 : w.heap.size ≤ k ∧ k < w.heap.size + 4 := by omega
  refine ⟨?_, fun hA => by have := (OwnV.at_base h.own k hA).2; omega⟩
  rintro (e | e | ⟨e, he, hk'⟩)
  · have := h.blk.lt; omega
  · have := h.map.lt; omega
  · rcases hg1 e he k hk' with ⟨e0, he0, hk0⟩ | h3
    · have := (OwnV.at_base (h.rows e0 he0) k hk0).2; omega
    · omega

open BigFrame
theorem posOf_lt {all : List UInt8} {kn : Nat} {k : List UInt8} {ps : List Nat} {x p : Nat} (hps : posOf all kn k = ps) (hx : x < ps.length) (hp : p = ps.getD x 0) : p < kn := by
  have : p ∈ posOf all kn k := by
    rw [hps, hp, List.getD_eq_getElem?_getD, List.getElem?_eq_getElem hx]
    exact List.getElem_mem hx
  unfold posOf at this
  rw [List.mem_filter, List.mem_range] at this
  exact this.1

theorem find_far {w W0 W1 : World} {base F M : Nat} {Aa : Option Addr} {ca : Nat} {all : List UInt8} {kn kn' : Nat} {l l' : List PE} (h : Fd w base F M Aa ca all kn l) (hn : New w W0) (hsz : W0.heap.size = w.heap.size + 4)
    (h1 : Fd W1 base F M Aa ca all kn' l') (hg1 : Gr W0 l l') : ∀ k, w.heap.size ≤ k → k < w.heap.size + 4 → ¬ Sf F M l' k ∧ ¬ At Aa k := by
  intro k hk1 hk2
  refine ⟨?_, fun hA => by have := (OwnV.at_base h.own k hA).2; omega⟩
  rintro (e | e | ⟨e, he, hk'⟩)
  · have := h.blk.lt; omega
  · have := h.map.lt; omega
  · rcases hg1 e he k hk' with ⟨e0, he0, hk0⟩ | h3
    · have := (OwnV.at_base (h.rows e0 he0) k hk0).2; omega
    · omega

def vls {L : Nat} (ps : List Nat) (pre : List { x : Nat // x < L }) : List Nat := pre.map (fun x => ps.getD x.1 0)
theorem vls_bks {ps : List Nat} {j : Nat} (pre : List { x : Nat // x < ps.length }) (h : pre.map (·.1) = bks ps.length j) : vls ps pre = (bks ps.length j).map (fun x => ps.getD x 0) := by
  rw [← h, vls, List.map_map]
  rfl
theorem bks_rev (ps : List Nat) : (bks ps.length ps.length).map (fun x => ps.getD x 0) = ps.reverse := by
  apply List.ext_getElem
  · simp [bks]
  · intro i h1 h2
    have h3 : i < ps.length := by simpa [bks] using h1
    simp [bks, List.getD_eq_getElem?_getD, List.getElem?_eq_getElem (show ps.length - 1 - i < ps.length by omega)]
theorem bks_pre (ps : List Nat) (j : Nat) (h : j ≤ ps.length) : ∃ rest, (bks ps.length j).map (fun x => ps.getD x 0) ++ rest = ps.reverse := by
  rw [← bks_rev]
  obtain ⟨k, hk⟩ := Nat.exists_eq_add_of_le h
  refine ⟨((List.range k).map fun i => ps.length - 1 - (j + i)).map (fun x => ps.getD x 0), ?_⟩
  rw [← List.map_append]
  congr 1
  unfold bks
  rw [show List.range ps.length = List.range (j + k) from by rw [← hk], List.range_add, List.map_append, List.map_map]
  rfl
def FI (all : List UInt8) (at_ g B : Nat) (vals : List Nat) (W1 W : World) : Prop :=
  ∃ s : Nat × Nat, (∀ rest, fnd all at_ (vals ++ rest) (0, 0) = fnd all at_ rest s) ∧ s.1 ≤ 3000000 ∧ s.2 ≤ 131 ∧ Mod (fun k => k = g + 1 + 1 ∨ k = g + 1 + 1 + 1) W1 W ∧ Blk W (g + 1 + 1) 3 #[.int .i64 (s.1 : Nat)] ∧ Blk W (g + 1 + 1 + 1) 3 #[.int .i64 (s.2 : Nat)] ∧ B ≤ W.heap.size
def FX (all : List UInt8) (at_ g B : Nat) (vals : List Nat) (W1 W : World) : Prop :=
  ∃ s : Nat × Nat, (∀ rest, fnd all at_ (vals ++ rest) (0, 0) = s) ∧ s.1 ≤ 3000000 ∧ s.2 ≤ 131 ∧ Mod (fun k => k = g + 1 + 1 ∨ k = g + 1 + 1 + 1) W1 W ∧ Blk W (g + 1 + 1) 3 #[.int .i64 (s.1 : Nat)] ∧ Blk W (g + 1 + 1 + 1) 3 #[.int .i64 (s.2 : Nat)] ∧ B ≤ W.heap.size

theorem find_put {all : List UInt8} {at_ g B : Nat} {vals vals' : List Nat} {p : Nat} {W1 W Wf : World} {s s' : Nat × Nat} {PA : Option Addr} {Bs : Nat} (hs' : s' = fstep all at_ s p) (hb : ¬ (4096 < at_ - p ∨ s.2 = 131)) (hb1 : s'.1 ≤ 3000000) (hb2 : s'.2 ≤ 131)
    (hI : (∀ rest, fnd all at_ (vals ++ rest) (0, 0) = fnd all at_ rest s) ∧ s.1 ≤ 3000000 ∧ s.2 ≤ 131 ∧ Mod (fun k => k = g + 1 + 1 ∨ k = g + 1 + 1 + 1) W1 W ∧ Blk W (g + 1 + 1) 3 #[.int .i64 (s.1 : Nat)] ∧ Blk W (g + 1 + 1 + 1) 3 #[.int .i64 (s.2 : Nat)] ∧ B ≤ W.heap.size)
    (hm : Mod (fun k => k = g + 1 + 1 ∨ k = g + 1 + 1 + 1) W Wf) (hD : Blk Wf (g + 1 + 1) 3 #[.int .i64 (s'.1 : Nat)]) (hE : Blk Wf (g + 1 + 1 + 1) 3 #[.int .i64 (s'.2 : Nat)])
    (hBs : Bs < W.heap.size) (hBs2 : g + 1 + 1 + 1 < Bs) (hPA : ∀ k, At PA k → k < W.heap.size ∧ k ≠ g + 1 + 1 ∧ k ≠ g + 1 + 1 + 1) (hv : ∀ rest, vals' ++ rest = vals ++ (p :: rest)) :
    KeepsFrom B W Wf ∧ (Wf.heap[Bs]? = W.heap[Bs]? ∧ ∀ k, At PA k → Wf.heap[k]? = W.heap[k]?) ∧ FI all at_ g B vals' W1 Wf := by
  obtain ⟨h1, h2, h3, h4, h5, h6, h7⟩ := hI
  refine ⟨keeps_of_mod hm (fun k hk => ?_), ⟨hm.block _ hBs (by omega), fun k hk => hm.block _ (hPA k hk).1 (by have := (hPA k hk).2; omega)⟩, s', fun rest => ?_, hb1, hb2, h4.trans hm (fun _ _ e => e), hD, hE, Nat.le_trans h7 hm.size⟩
  · rcases hk with rfl | rfl
    · exact ⟨_, _, h5⟩
    · exact ⟨_, _, h6⟩
  · rw [hv, h1, fnd, if_neg hb, hs']

theorem find_fin {g D : Nat} {W1 W : World} {s : Nat × Nat} (h4 : Mod (fun k => k = g + 1 + 1 ∨ k = g + 1 + 1 + 1) W1 W) (h5 : Blk W (g + 1 + 1) 3 #[.int .i64 (s.1 : Nat)]) (h6 : Blk W (g + 1 + 1 + 1) 3 #[.int .i64 (s.2 : Nat)])
    (hg : g + 4 ≤ W1.heap.size) (hD : W1.heap.size ≤ D) (hdef : W.heap[D]? = some (.deferred (some []))) {W5 : World}
    (hW5 : ((W.setCell ⟨g + 1 + 1, 0, none⟩ (.int .i64 (s.1 : Nat))).setCell ⟨g + 1 + 1 + 1, 0, none⟩ (.int .i64 (s.2 : Nat))).drew = W5) :
    W5.heap[D]? = some (.deferred (some [])) ∧ (W5.putObj D (.deferred none)).cell? ⟨g + 1 + 1, 0, none⟩ = some (.int .i64 (s.1 : Nat)) ∧ (W5.putObj D (.deferred none)).cell? ⟨g + 1 + 1 + 1, 0, none⟩ = some (.int .i64 (s.2 : Nat)) ∧
      Mod (fun k => k = g + 1 + 1 ∨ k = g + 1 + 1 + 1) W1 (W5.putObj D (.deferred none)) := by
  have hD5 : W5.heap[D]? = some (.deferred (some [])) := by
    rw [← hW5]
    exact ((Below.heap_setCell _ ⟨g + 1 + 1 + 1, 0, none⟩ _ D (by show D ≠ g + 1 + 1 + 1; omega)).trans (Below.heap_setCell W ⟨g + 1 + 1, 0, none⟩ _ D (by show D ≠ g + 1 + 1; omega))).trans hdef
  have hB5 : Blk W5 (g + 1 + 1) 3 #[.int .i64 (s.1 : Nat)] := by
    rw [← hW5]
    exact Blk.new ((h5.put 0 _).far _ (by simp) _) ((Mod.refl _ _).drew)
  have hC5 : Blk W5 (g + 1 + 1 + 1) 3 #[.int .i64 (s.2 : Nat)] := by
    rw [← hW5]
    exact Blk.new ((h6.far _ (by simp) _).put 0 _) ((Mod.refl _ _).drew)
  have hm5 : Mod (fun k => k = g + 1 + 1 ∨ k = g + 1 + 1 + 1) W1 W5 := by
    rw [← hW5]
    exact ((h4.setCell _ _ (fun _ => .inl rfl)).setCell _ _ (fun _ => .inr rfl)).drew
  have hg6 := grownBy_putObj' W5 D (.deferred none)
  have hr6 : ∀ r, some D = some r → ∃ o : Obj, W5.heap[r]? = some o ∧ o.isCells = false := fun r e => by cases e; exact ⟨_, hD5, rfl⟩
  exact ⟨hD5, (hB5.own hg6 hr6).cell 0 _ rfl, (hC5.own hg6 hr6).cell 0 _ rfl, hm5.grown hg6 (fun k e hk => by cases e; omega)⟩

attribute [local go_sem] Oper.semAt_some min_run max_run

set_option maxRecDepth 100000 in
set_option maxHeartbeats 1000000 in
theorem find_any (base F M : Nat) (Aa : Option Addr) (ca : Nat) (all : List UInt8) (kn : Nat) (l : List PE) (til : Nat) (w : World) (h : Fd w base F M Aa ca all kn l) (hk : kn ≤ til) (ht : til ≤ 3000000) (ha : all.length ≤ 3000000) :
    Calls Try.prog 26 #[.pointer (some ⟨F, 0, none⟩), .int .i64 (til : Int)] w fun e w' => e = .returned (.tuple #[.int .i64 ((findB all til).1 : Nat), .int .i64 ((findB all til).2 : Nat)]) ∧ ∃ kn' l', Fd w' base F M Aa ca all kn' l' ∧ Mod (Sf F M l) w w' ∧ Gr w l l' ∧ kn' ≤ til := by
  have hal : ∀ ob, Fd (w.alloc ob) base F M Aa ca all kn l := fun ob => Fd.new h ((Mod.refl _ _).alloc ob)
  obtain ⟨W0, hW0⟩ : ∃ W0, ((((w.alloc (.cells #[.pointer (some ⟨F, 0, none⟩)] 75)).alloc (.cells #[.int .i64 (til : Int)] 3)).alloc (.cells #[.int .i64 0] 3)).alloc (.cells #[.int .i64 0] 3)) = W0 := ⟨_, rfl⟩
  have hN : New w W0 := by rw [← hW0]; exact ((((Mod.refl _ _).alloc _).alloc _).alloc _).alloc _
  have hsz : W0.heap.size = w.heap.size + 4 := by rw [← hW0]; simp
  have hB0 : Blk W0 w.heap.size 75 #[.pointer (some ⟨F, 0, none⟩)] := by rw [← hW0]; exact (((Blk.fresh w 75 _).alloc _).alloc _).alloc _
  have hB1 : Blk W0 (w.heap.size + 1) 3 #[.int .i64 (til : Int)] := by
    rw [← hW0]; have := Blk.fresh (w.alloc (.cells #[.pointer (some ⟨F, 0, none⟩)] 75)) 3 #[.int .i64 (til : Int)]; rw [World.size_alloc] at this; exact (this.alloc _).alloc _
  have hB2 : Blk W0 (w.heap.size + 1 + 1) 3 #[.int .i64 0] := by
    rw [← hW0]; have := Blk.fresh ((w.alloc (.cells #[.pointer (some ⟨F, 0, none⟩)] 75)).alloc (.cells #[.int .i64 (til : Int)] 3)) 3 #[.int .i64 0]; rw [World.size_alloc, World.size_alloc] at this; exact this.alloc _
  have hB3 : Blk W0 (w.heap.size + 1 + 1 + 1) 3 #[.int .i64 0] := by
    rw [← hW0]; have := Blk.fresh (((w.alloc (.cells #[.pointer (some ⟨F, 0, none⟩)] 75)).alloc (.cells #[.int .i64 (til : Int)] 3)).alloc (.cells #[.int .i64 0] 3)) 3 #[.int .i64 0]; rwa [World.size_alloc, World.size_alloc, World.size_alloc] at this
  have H := Lib.hid h
  have HB := Lib.hid (And.intro hN (And.intro hsz (And.intro hB0 (And.intro hB1 (And.intro hB2 hB3)))))
  clear h hal hN hsz hB0 hB1 hB2 hB3
  have hd0 := HB.out.2.2.1.cell 0 _ rfl
  have hd1 := HB.out.2.2.2.1.cell 0 _ rfl
  refine callsIn_wide (n := 9) |>.1 ?_
  refine callsIn_of_wp_marks Try.func26 rfl trivial ?_ rfl
  simp only [Try.ntmps26, List.size_toArray, List.length_cons, List.length_nil, Nat.reduceAdd, Nat.reduceSub, Array.replicate_succ, Array.replicate_zero, List.push_toArray, List.append_toArray, List.nil_append, List.cons_append]
  refine wpIn_wide.2 ?_
  go_wp2_with (go_at_call 35; go_must (refine (learn_any base F M Aa ca all kn l til W0 (Fd.new H.out HB.out.1) hk ht ha).mono ?_; rintro e W1 ⟨rfl, kn', l', hF1, hm1, hg1, hk1, hd⟩; obtain ⟨hb0, hb1, hb2, hb3⟩ := find_boxes H.out HB.out hm1; have H1 := Lib.hid (And.intro hF1 (And.intro hm1 (And.intro hg1 (And.intro hk1 (And.intro hd (And.intro hb0 (And.intro hb1 (And.intro hb2 hb3)))))))); have hd0 := hb0.cell 0 _ rfl; have hd1 := hb1.cell 0 _ rfl; have hf2 := hb2.frozen 0; have hf3 := hb3.frozen 0; have hd2 := hb2.cell 0 _ rfl; have hd3 := hb3.cell 0 _ rfl; have hc0 := hF1.blk.cell 0 _ rfl; have hc1 := hF1.blk.cell 1 _ rfl; clear hF1 hm1 hg1 hk1 hd hb0 hb1 hb2 hb3))
  have ht' : (til : Int) ≤ 3000000 := by omega
  by_cases h4 : (all.length : Int) < til + 4
  · go_quiet (fail)
    go_wp2
    refine ⟨_, res_cc (x := 0) (y := 0) rfl _ _ _ _ rfl rfl (by go_simp) (by go_simp), ?_, ?_⟩
    · have : findB all til = (0, 0) := by
        unfold findB
        rw [if_pos (by omega)]
      rw [this]
      rfl
    · refine find_end H.out HB.out.1 HB.out.2.1 H1.out.1 H1.out.2.1 H1.out.2.2.1 H1.out.2.2.2.1 ?_
      exact (((Mod.refl _ _).drewN _).setCell _ _ (fun _ => .inl rfl)).setCell _ _ (fun _ => .inr rfl)
  · go_quiet (fail)
    go_wp2
    obtain ⟨W2, hW2⟩ : ∃ W2, W1.drewN nq = W2 := ⟨_, rfl⟩
    have hN2 : New W1 W2 := by rw [← hW2]; exact (Mod.refl _ _).drewN _
    rw [hW2]
    have hlen4 : ((all.drop til).take 4).length = 4 := by rw [List.length_take, List.length_drop]; omega
    have hkn : kn' = til := by rcases H1.out.2.2.2.2.1 with h | h; exact h; have := H1.out.2.2.2.1; omega
    subst hkn
    obtain ⟨PA, pc, hlook0, hown0, hAt0⟩ := find_lookup H1.out.1.cont H1.out.1.rows hlen4
    obtain ⟨x0, x1, x2, x3, hx⟩ := four_of_length hlen4
    have hMap2 : MapB W2 M l' := H1.out.1.map.mod hN2 (fun h => h)
    have hlook : ∀ n, (Instr.lookup 59 (.map (some M)) (.agg #[.int .u8 x0.toNat, .int .u8 x1.toNat, .int .u8 x2.toNat, .int .u8 x3.toNat]) false).run Try.prog (W2.drewN n) = .ok (.slice PA (posOf all kn' ((all.drop kn').take 4)).length pc) (W2.drewN n) := by
      intro n
      have := hlook0 (W2.drewN n) (hMap2.mod ((Mod.refl (fun _ => False) W2).drewN n) (fun h => h))
      rw [hx, kv_four] at this
      rw [hx]
      exact this
    have hrd := OwnB.rd (OwnV.new H1.out.1.own hN2)
    obtain ⟨b, o, rfl⟩ := hrd.addr (by omega)
    have hcap : kn' < ca := by have := hrd.cap; omega
    obtain ⟨he0, he1, he2, he3⟩ := four_cells hrd hx
    have hle : kn' ≤ all.length := by omega
    have hne : ¬ ca = kn' := by omega
    have hge : 4 ≤ all.length - kn' := by omega
    have harr : ∀ w, (Instr.arrayAt 78 (.slice (some ⟨b, o + kn', none⟩) (all.length - kn') (ca - kn'))).run Try.prog w = .ok (.pointer (some ⟨b, o + kn', none⟩)) w := fun w => run_arrayAt w b _ _ _ hge
    obtain ⟨ps, hps⟩ : ∃ ps, posOf all kn' ((all.drop kn').take 4) = ps := ⟨_, rfl⟩
    rw [hps] at hlook hown0
    have H2 := Lib.hid (And.intro hN2 (And.intro hx (And.intro hown0 (And.intro hAt0 hps))))
    have hd0 := H1.out.2.2.2.2.2.1.cell 0 _ rfl
    have hc0 := (H1.out.1.blk.new hN2).cell 0 _ rfl
    have hc1 := (H1.out.1.blk.new hN2).cell 1 _ rfl
    have hd0 := (H1.out.2.2.2.2.2.1.new hN2).cell 0 _ rfl
    have hd1 := (H1.out.2.2.2.2.2.2.1.new hN2).cell 0 _ rfl
    have hd2 := (H1.out.2.2.2.2.2.2.2.1.new hN2).cell 0 _ rfl
    have hd3 := (H1.out.2.2.2.2.2.2.2.2.new hN2).cell 0 _ rfl
    clear hN2 hx hown0 hAt0 hps hrd hMap2 hlook0 hlen4 hW2
    go_quiet (fail)
    obtain ⟨W3, hW3⟩ : ∃ W3, W2.drewN nq = W3 := ⟨_, rfl⟩
    have hN3 : New W2 W3 := by rw [← hW3]; exact (Mod.refl _ _).drewN _
    rw [hW3]
    clear hd0 hc0 hc1 hd1 hd2 hd3 hW3 hlook harr he0 he1 he2 he3
    go_wp2_with (go_at_call 36; go_must (refine (back_any _ _ _ _).mono ?_; rintro e w' ⟨rfl, rfl⟩))
    obtain ⟨W4, hW4⟩ : ∃ W4, W3.alloc (.cells #[.slice PA ps.length pc] 77) = W4 := ⟨_, rfl⟩
    rw [hW4]
    have hB4 : Blk W4 W3.heap.size 77 #[.slice PA ps.length pc] := by rw [← hW4]; exact Blk.fresh W3 77 _
    have hN14 : New W1 W4 := by rw [← hW4]; exact ((H2.out.1).trans hN3 (fun _ _ h => h)).alloc _
    have hpl : ps.length ≤ 3000000 := by
      rw [← H2.out.2.2.2.2]
      have := posOf_length all kn' ((all.drop kn').take 4)
      omega
    have hW3s : W1.heap.size ≤ W3.heap.size := Nat.le_trans H2.out.1.size hN3.size
    have hW4s : W4.heap.size = W3.heap.size + 1 := by rw [← hW4]; simp
    have hfar := find_far H.out HB.out.1 HB.out.2.1 H1.out.1 H1.out.2.2.1
    have hPA : ∀ k, At PA k → k < W1.heap.size := fun k hk => (OwnV.at_base H2.out.2.2.1 k hk).2
    have hPA2 : ∀ k, At PA k → k ≠ w.heap.size + 1 + 1 ∧ k ≠ w.heap.size + 1 + 1 + 1 := fun k hk => by
      have h1 := (hfar (w.heap.size + 1 + 1) (by omega) (by omega)).1
      have h2 := (hfar (w.heap.size + 1 + 1 + 1) (by omega) (by omega)).1
      obtain ⟨e, he, hk'⟩ := H2.out.2.2.2.1 k hk
      exact ⟨fun h => h1 (by rw [← h]; exact .inr (.inr ⟨e, he, hk'⟩)), fun h => h2 (by rw [← h]; exact .inr (.inr ⟨e, he, hk'⟩))⟩
    have hD4 : Blk W4 (w.heap.size + 1 + 1) 3 #[.int .i64 0] := H1.out.2.2.2.2.2.2.2.1.new hN14
    have hE4 : Blk W4 (w.heap.size + 1 + 1 + 1) 3 #[.int .i64 0] := H1.out.2.2.2.2.2.2.2.2.new hN14
    have hbs : w.heap.size + 4 ≤ W1.heap.size := by have := H1.out.2.1.size; have := HB.out.2.1; omega
    refine wpIn_wide (n := 9) |>.1 ?_
    refine wpIn_rangeFunc_ownG (n := 9) rfl (by omega) (gf := 39) (lb := #[.pointer (some ⟨W3.heap.size, 0, none⟩)]) rfl trivial (enters_of Try.func39 (by kernel_rfl) rfl)
      (back_stops W3.heap.size PA ps.length pc ps (by omega) W4 hB4 (OwnV.rd (OwnV.new H2.out.2.2.1 hN14)) (fun k hk => by have := hPA k hk; omega))
      (fun h k => ⟨k.1.trans h.1, fun i hi => (k.2 i hi).trans (h.2 i hi)⟩) ?kb (Below.refl _ _) (fun _ => rfl)
      (fun pre W => FI all kn' w.heap.size W4.heap.size (vls ps pre) W1 W)
      (fun c pre W => c = .exit 0 ∧ FX all kn' w.heap.size W4.heap.size (vls ps pre) W1 W) ?hI ?hIx ?h0
      (fun x => { tmps := #[.pointer (some ⟨F, 0, none⟩), .int .i64 (kn' : Int), .pointer (some ⟨w.heap.size, 0, none⟩), .pointer (some ⟨w.heap.size + 1, 0, none⟩), .pointer (some ⟨w.heap.size + 1 + 1, 0, none⟩), .pointer (some ⟨w.heap.size + 1 + 1 + 1, 0, none⟩), Value.slice PA ps.length pc, undef, .int .i64 (ps.getD x.1 0 : Nat), undef, .pointer (some ⟨F, 0, none⟩), .int .i64 (kn' : Int), Value.tuple #[], .int .i64 (kn' : Int), .int .i64 ((kn' : Int) + 4), .pointer (some ⟨F, 0, none⟩), .pointer (some ⟨F, 0, none⟩), .pointer (some ⟨F, 0, none⟩), Value.slice (some ⟨b, o, none⟩) all.length ca, .int .i64 (all.length : Int), Value.bool false, .pointer (some ⟨F, 0, none⟩), .pointer (some ⟨F, 0, none⟩), .pointer (some ⟨F, 1, none⟩), Value.map (some M), .pointer (some ⟨F, 0, none⟩), .pointer (some ⟨F, 0, none⟩), .pointer (some ⟨F, 0, none⟩), Value.slice (some ⟨b, o, none⟩) all.length ca, .int .i64 (kn' : Int), Value.slice (some ⟨b, o + kn', none⟩) (all.length - kn') (ca - kn'), .pointer (some ⟨b, o + kn', none⟩), Value.agg #[Value.int IntKind.u8 x0.toNat, Value.int IntKind.u8 x1.toNat, Value.int IntKind.u8 x2.toNat, Value.int IntKind.u8 x3.toNat], Value.slice PA ps.length pc, Value.slice PA ps.length pc, Value.func (Fn.func 39) #[] #[.pointer (some ⟨W3.heap.size, 0, none⟩)], .int .i64 (x.1 : Int), .int .i64 (ps.getD x.1 0 : Nat), undef, undef, undef, undef, undef, undef, undef, undef, undef, undef, undef, undef, undef, undef, undef, undef, undef, undef, undef, undef, undef, undef, undef, undef, undef, undef, undef, undef, undef, undef, undef, undef, undef, undef, undef, undef, undef, undef, undef, undef, undef, undef, undef, undef, undef, undef, undef, undef, undef, undef, undef, undef, undef], defers := [] }) ?assign ?body ?done ?stop
    case kb =>
      intro W l o o' hle hl hc hwk
      exact ⟨World.putObj_heap_other (by omega), fun k hk => World.putObj_heap_other (by have := hPA k hk; omega)⟩
    case hI =>
      rintro s W W' row ⟨s', h1, h2, h3, h4, h5, h6, h7⟩ hg hr
      have hr' : ∀ r, row = some r → ∃ o : Obj, W.heap[r]? = some o ∧ o.isCells = false := fun r e => (hr r e).2
      exact ⟨s', h1, h2, h3, h4.grown hg (fun k e hk => by have := (hr k e).1; omega), h5.own hg hr', h6.own hg hr', Nat.le_trans h7 hg.size⟩
    case hIx =>
      rintro c s W W' row ⟨rfl, s', h1, h2, h3, h4, h5, h6, h7⟩ hg hr
      have hr' : ∀ r, row = some r → ∃ o : Obj, W.heap[r]? = some o ∧ o.isCells = false := fun r e => (hr r e).2
      exact ⟨rfl, s', h1, h2, h3, h4.grown hg (fun k e hk => by have := (hr k e).1; omega), h5.own hg hr', h6.own hg hr', Nat.le_trans h7 hg.size⟩
    case h0 => exact ⟨(0, 0), fun rest => rfl, by simp, by simp, Mod.new hN14, hD4, hE4, Nat.le_refl _⟩
    case assign =>
      intro l x W K hK
      unfold encB
      gi_wp2
      exact hK
    case body =>
      rintro l pre ⟨x, hx⟩ W ⟨s, h1, h2, h3, h4, h5, h6, h7⟩ hlt
      dsimp only
      obtain ⟨p, hp⟩ : ∃ p, p = ps.getD x 0 := ⟨_, rfl⟩
      have hpk : p < kn' := posOf_lt H2.out.2.2.2.2 hx hp
      rw [← hp]
      have hw0 := (H1.out.2.2.2.2.2.1.mod h4 (by omega)).cell 0 _ rfl
      have hw1 := (H1.out.2.2.2.2.2.2.1.mod h4 (by omega)).cell 0 _ rfl
      have hw2 := h5.cell 0 _ rfl
      have hw3 := h6.cell 0 _ rfl
      have hz2 := h5.frozen 0
      have hz3 := h6.frozen 0
      have hwF := (H1.out.1.blk.mod h4 (fun e => by have := H.out.blk.lt; omega)).cell 0 _ rfl
      have HI := Lib.hid (And.intro h1 (And.intro h2 (And.intro h3 (And.intro h4 (And.intro h5 (And.intro h6 h7))))))
      have Hp := Lib.hid hp
      have Hx := Lib.hid hx
      clear h1 h4 h5 h6 h7 hp
      have hpk' : (p : Int) < kn' := by omega
      have hs2 : (s.2 : Int) ≤ 131 := by omega
      have HW4 := Lib.hid hW4s
      clear hW4s
      have hpush : ∀ rest, vls ps (pre ++ [(⟨x, hx⟩ : { x : Nat // x < ps.length })]) ++ rest = vls ps pre ++ (p :: rest) := fun rest => by
        rw [vls, vls, List.map_append, List.append_assoc, List.map_singleton, ← Hp.out]; rfl
      have Hpush := Lib.hid hpush
      clear hpush
      by_cases hA : (4096 : Int) < kn' - p
      · gi_wp2
        refine ⟨KeepsFrom.refl _ _, rfl, (⟨s, fun rest => ?_, HI.out.2⟩ : FX _ _ _ _ _ _ _)⟩
        rw [Hpush.out, HI.out.1, fnd, if_pos (.inl (by omega))]
      · by_cases hB : s.2 = 131
        · have hB' : (s.2 : Int) = 131 := by omega
          gi_wp2
          refine ⟨KeepsFrom.refl _ _, rfl, (⟨s, fun rest => ?_, HI.out.2⟩ : FX _ _ _ _ _ _ _)⟩
          rw [Hpush.out, HI.out.1, fnd, if_pos (.inr hB)]
        · have hB' : ¬ (s.2 : Int) = 131 := by omega
          gi_wp2
          gi_loopw [9] (fun i wr => ∃ n : Nat, i = .int .i64 (n : Int) ∧ 4 ≤ n ∧ n ≤ 131 ∧ Hid (ext all kn' p 127 4 = ext all kn' p (131 - n) n) ∧ (∃ k, wr = W.drewN k)) (fun i _ => 131 - (intOf i).toNat)
          case atStart => exact ⟨4, rfl, by omega, by omega, rfl, 0, rfl⟩
          case round =>
            obtain ⟨n, rfl, hn4, hn131, Hn, k, rfl⟩ := hrel
            have hn4' : (4 : Int) ≤ n := by omega
            by_cases hnn : (n : Int) < 131
            · by_cases hle : (kn' : Int) + n < all.length
              · have hrdW : RdB W (some ⟨b, o, none⟩) all.length ca all := OwnB.rd (OwnV.keep H1.out.1.own HI.out.2.2.2.1 (fun k hk e => by
                  rcases e with e | e
                  · exact (hfar k (by omega) (by omega)).2 hk
                  · exact (hfar k (by omega) (by omega)).2 hk))
                have hcp := hrdW.byteD (p + n) (by omega)
                have hck := hrdW.byteD (kn' + n) (by omega)
                have hcc1 : p + n < ca := by have := hrdW.cap; omega
                have hcc2 : kn' + n < ca := by have := hrdW.cap; omega
                have hle1 : (p : Int) + n < all.length := by omega
                clear hrdW
                by_cases heq : all.getD (p + n) 0 = all.getD (kn' + n) 0
                · rw [heq] at hcp
                  obtain ⟨y1, hy1⟩ : ∃ y, all.getD (kn' + n) 0 = y := ⟨_, rfl⟩
                  rw [hy1] at hcp hck
                  have Hy1 := Lib.hid hy1
                  clear hy1
                  have hnn' : decide ((n : Int) < 131) = true := by simpa using hnn
                  have hle' : decide ((kn' : Int) + n < all.length) = true := by simpa using hle
                  gi_wp2_with fail
                  refine wpIn_region_quiet_round ?hQ1 (by kernel_rfl) (by kernel_rfl) (by kernel_rfl) ?_
                  case hQ1 =>
                    rintro ⟨a, w, h⟩
                    exact h
                  repeat (go_big_quiet_step (fail))
                  refine wpQuiet_nil ?_
                  intro _ hw'
                  obtain ⟨nq, hw''⟩ := hw'
                  subst hw''
                  gi_wp2
                  go_roundw
                  case rel =>
                    refine ⟨n + 1, by go_num, by omega, by omega, ?_, _, rfl⟩
                    obtain ⟨m, hm⟩ : ∃ m, 131 - n = m + 1 := ⟨130 - n, by omega⟩
                    exact (Hn.out.trans (by rw [hm, ext, if_pos ⟨by omega, heq⟩, show 131 - (n + 1) = m from by omega]) : ext all kn' p 127 4 = ext all kn' p (131 - (n + 1)) (n + 1))
                  case measure => simp [intOf]; omega
                · have hyy : decide ((((all.getD (p + n) 0).toNat : Nat) : Int) = ((all.getD (kn' + n) 0).toNat : Nat)) = false := by
                    rw [decide_eq_false_iff_not]
                    intro hh
                    exact heq (UInt8.toNat_inj.1 (by omega))
                  obtain ⟨y1, hy1⟩ : ∃ y, all.getD (kn' + n) 0 = y := ⟨_, rfl⟩
                  obtain ⟨y2, hy2⟩ : ∃ y, all.getD (p + n) 0 = y := ⟨_, rfl⟩
                  rw [hy1] at hck
                  rw [hy2] at hcp
                  rw [hy1, hy2] at hyy
                  have hyy2 : ¬ y2.toNat = y1.toNat := fun h => by
                    rw [decide_eq_false_iff_not] at hyy
                    exact hyy (by rw [h])
                  have hyy3 : ¬ y2 = y1 := fun h => hyy2 (by rw [h])
                  have Heq := Lib.hid heq
                  clear hy1 hy2 heq
                  have hnn' : decide ((n : Int) < 131) = true := by simpa using hnn
                  have hle' : decide ((kn' : Int) + n < all.length) = true := by simpa using hle
                  gi_wp2_with fail
                  refine wpIn_region_quiet_round ?hQ2 (by kernel_rfl) (by kernel_rfl) (by kernel_rfl) ?_
                  case hQ2 =>
                    rintro ⟨a, w, h⟩
                    exact h
                  repeat (go_big_quiet_step (fail))
                  refine wpQuiet_nil ?_
                  intro _ hw'
                  obtain ⟨nq, hw''⟩ := hw'
                  subst hw''
                  have hext : ext all kn' p 127 4 = n := by
                    rw [Hn.out]
                    obtain ⟨m, hm⟩ : ∃ m, 131 - n = m + 1 := ⟨130 - n, by omega⟩
                    rw [hm, ext, if_neg (fun h => Heq.out h.2)]
                  have hfs : fstep all kn' s p = if s.2 < n then (kn' - p, n) else s := by unfold fstep; rw [hext]
                  have Hfs := Lib.hid hfs
                  clear hext hfs
                  by_cases hgt : s.2 < n
                  · have hgt' : ((s.2 : Nat) : Int) < n := by omega
                    rw [if_pos hgt] at Hfs
                    gi_wp2
                    have hsub : ((kn' - p : Nat) : Int) = (kn' : Int) - p := by omega
                    refine find_put (Bs := W3.heap.size) (PA := PA) (s := s) (s' := (kn' - p, n)) Hfs.out.symm (by omega) (by simp; omega) hn131 HI.out ?bM2 ?bD2 ?bE2 (by have := HI.out.2.2.2.2.2.2; have := HW4.out; omega) (by omega) (fun k hk => ⟨by have := hPA k hk; have := HI.out.2.2.2.1.size; omega, hPA2 k hk⟩) Hpush.out
                    case bM2 => exact (((Mod.refl _ _).drewN _).setCell _ _ (fun _ => .inl rfl)).setCell _ _ (fun _ => .inr rfl)
                    case bD2 =>
                      dsimp only
                      rw [hsub]
                      exact ((HI.out.2.2.2.2.1.new ((Mod.refl _ _).drewN _)).put 0 _).far _ (by simp) _
                    case bE2 => exact ((HI.out.2.2.2.2.2.1.new ((Mod.refl _ _).drewN _)).far _ (by simp) _).put 0 _
                  · have hgt' : ¬ ((s.2 : Nat) : Int) < n := by omega
                    have hgt2 : decide (((s.2 : Nat) : Int) < n) = false := by simpa using hgt
                    rw [if_neg hgt] at Hfs
                    gi_wp2
                    exact find_put (Bs := W3.heap.size) (PA := PA) (s := s) (s' := s) Hfs.out.symm (by omega) h2 h3 HI.out ((Mod.refl _ _).drewN _) (HI.out.2.2.2.2.1.new ((Mod.refl _ _).drewN _)) (HI.out.2.2.2.2.2.1.new ((Mod.refl _ _).drewN _)) (by have := HI.out.2.2.2.2.2.2; have := HW4.out; omega) (by omega) (fun k hk => ⟨by have := hPA k hk; have := HI.out.2.2.2.1.size; omega, hPA2 k hk⟩) Hpush.out
              · 
                have hnn' : decide ((n : Int) < 131) = true := by simpa using hnn
                have hle' : decide ((kn' : Int) + n < all.length) = false := by simpa using hle
                gi_wp2_with fail
                refine wpIn_region_quiet_round ?hQ3 (by kernel_rfl) (by kernel_rfl) (by kernel_rfl) ?_
                case hQ3 =>
                  rintro ⟨a, w, h⟩
                  exact h
                repeat (go_big_quiet_step (fail))
                refine wpQuiet_nil ?_
                intro _ hw'
                obtain ⟨nq, hw''⟩ := hw'
                subst hw''
                have hext : ext all kn' p 127 4 = n := by
                  rw [Hn.out]
                  obtain ⟨m, hm⟩ : ∃ m, 131 - n = m + 1 := ⟨130 - n, by omega⟩
                  rw [hm, ext, if_neg (by omega)]
                have hfs : fstep all kn' s p = if s.2 < n then (kn' - p, n) else s := by unfold fstep; rw [hext]
                have Hfs := Lib.hid hfs
                clear hext hfs
                by_cases hgt : s.2 < n
                · have hgt' : ((s.2 : Nat) : Int) < n := by omega
                  rw [if_pos hgt] at Hfs
                  gi_wp2
                  have hsub : ((kn' - p : Nat) : Int) = (kn' : Int) - p := by omega
                  refine find_put (Bs := W3.heap.size) (PA := PA) (s := s) (s' := (kn' - p, n)) Hfs.out.symm (by omega) (by simp; omega) hn131 HI.out ?bM3 ?bD3 ?bE3 (by have := HI.out.2.2.2.2.2.2; have := HW4.out; omega) (by omega) (fun k hk => ⟨by have := hPA k hk; have := HI.out.2.2.2.1.size; omega, hPA2 k hk⟩) Hpush.out
                  case bM3 => exact (((Mod.refl _ _).drewN _).setCell _ _ (fun _ => .inl rfl)).setCell _ _ (fun _ => .inr rfl)
                  case bD3 =>
                    dsimp only
                    rw [hsub]
                    exact ((HI.out.2.2.2.2.1.new ((Mod.refl _ _).drewN _)).put 0 _).far _ (by simp) _
                  case bE3 => exact ((HI.out.2.2.2.2.2.1.new ((Mod.refl _ _).drewN _)).far _ (by simp) _).put 0 _
                · have hgt' : ¬ ((s.2 : Nat) : Int) < n := by omega
                  have hgt2 : decide (((s.2 : Nat) : Int) < n) = false := by simpa using hgt
                  rw [if_neg hgt] at Hfs
                  gi_wp2
                  exact find_put (Bs := W3.heap.size) (PA := PA) (s := s) (s' := s) Hfs.out.symm (by omega) h2 h3 HI.out ((Mod.refl _ _).drewN _) (HI.out.2.2.2.2.1.new ((Mod.refl _ _).drewN _)) (HI.out.2.2.2.2.2.1.new ((Mod.refl _ _).drewN _)) (by have := HI.out.2.2.2.2.2.2; have := HW4.out; omega) (by omega) (fun k hk => ⟨by have := hPA k hk; have := HI.out.2.2.2.1.size; omega, hPA2 k hk⟩) Hpush.out
            · have hn1 : n = 131 := by omega
              have Hn1 := Lib.hid hn1
              clear hn1
              have hnn' : decide ((n : Int) < 131) = false := by simpa using hnn
              gi_wp2_with fail
              refine wpIn_region_quiet_round ?hQ4 (by kernel_rfl) (by kernel_rfl) (by kernel_rfl) ?_
              case hQ4 =>
                rintro ⟨a, w, h⟩
                exact h
              repeat (go_big_quiet_step (fail))
              refine wpQuiet_nil ?_
              intro _ hw'
              obtain ⟨nq, hw''⟩ := hw'
              subst hw''
              have hext : ext all kn' p 127 4 = n := by
                rw [Hn.out]
                have := Hn1.out
                subst this
                rfl
              have hfs : fstep all kn' s p = if s.2 < n then (kn' - p, n) else s := by unfold fstep; rw [hext]
              have Hfs := Lib.hid hfs
              clear hext hfs
              by_cases hgt : s.2 < n
              · have hgt' : ((s.2 : Nat) : Int) < n := by omega
                rw [if_pos hgt] at Hfs
                gi_wp2
                have hsub : ((kn' - p : Nat) : Int) = (kn' : Int) - p := by omega
                refine find_put (Bs := W3.heap.size) (PA := PA) (s := s) (s' := (kn' - p, n)) Hfs.out.symm (by omega) (by simp; omega) hn131 HI.out ?bM4 ?bD4 ?bE4 (by have := HI.out.2.2.2.2.2.2; have := HW4.out; omega) (by omega) (fun k hk => ⟨by have := hPA k hk; have := HI.out.2.2.2.1.size; omega, hPA2 k hk⟩) Hpush.out
                case bM4 => exact (((Mod.refl _ _).drewN _).setCell _ _ (fun _ => .inl rfl)).setCell _ _ (fun _ => .inr rfl)
                case bD4 =>
                  dsimp only
                  rw [hsub]
                  exact ((HI.out.2.2.2.2.1.new ((Mod.refl _ _).drewN _)).put 0 _).far _ (by simp) _
                case bE4 => exact ((HI.out.2.2.2.2.2.1.new ((Mod.refl _ _).drewN _)).far _ (by simp) _).put 0 _
              · have hgt' : ¬ ((s.2 : Nat) : Int) < n := by omega
                have hgt2 : decide (((s.2 : Nat) : Int) < n) = false := by simpa using hgt
                rw [if_neg hgt] at Hfs
                gi_wp2
                exact find_put (Bs := W3.heap.size) (PA := PA) (s := s) (s' := s) Hfs.out.symm (by omega) h2 h3 HI.out ((Mod.refl _ _).drewN _) (HI.out.2.2.2.2.1.new ((Mod.refl _ _).drewN _)) (HI.out.2.2.2.2.2.1.new ((Mod.refl _ _).drewN _)) (by have := HI.out.2.2.2.2.2.2; have := HW4.out; omega) (by omega) (fun k hk => ⟨by have := hPA k hk; have := HI.out.2.2.2.1.size; omega, hPA2 k hk⟩) Hpush.out
    case done =>
      rintro D xs W hD hxs ⟨s, h1, h2, h3, h4, h5, h6, h7⟩ hdef
      have hw2 := h5.cell 0 _ rfl
      have hw3 := h6.cell 0 _ rfl
      have hz2 := h5.frozen 0
      have hz3 := h6.frozen 0
      have HI := Lib.hid (And.intro h1 (And.intro h2 (And.intro h3 (And.intro h4 (And.intro h5 (And.intro h6 h7))))))
      have Hdef := Lib.hid hdef
      have Hxs := Lib.hid hxs
      have HW4 := Lib.hid hW4s
      clear h1 h4 h5 h6 h7 hdef hxs hW4s
      go_wp2
      go_region
      all_goals go_wp2
      obtain ⟨W5, hW5⟩ : ∃ W5, ((W.setCell ⟨w.heap.size + 1 + 1, 0, none⟩ (.int .i64 (s.1 : Nat))).setCell ⟨w.heap.size + 1 + 1 + 1, 0, none⟩ (.int .i64 (s.2 : Nat))).drew = W5 := ⟨_, rfl⟩
      obtain ⟨f1, f2, f3, f4⟩ := find_fin HI.out.2.2.2.1 HI.out.2.2.2.2.1 HI.out.2.2.2.2.2.1 hbs (by have := HW4.out; omega) Hdef.out hW5
      rw [hW5]
      refine ⟨by simp, .inl ⟨_, _, rfl, run_takeDeferred f1, ⟨_, res_cc (x := (s.1 : Nat)) (y := (s.2 : Nat)) rfl _ _ _ _ rfl rfl f2 f3, ?_, find_end H.out HB.out.1 HB.out.2.1 H1.out.1 H1.out.2.1 H1.out.2.2.1 H1.out.2.2.2.1 f4⟩⟩⟩
      have hfb : findB all kn' = s := by
        unfold findB
        rw [if_neg (by omega), H2.out.2.2.2.2]
        have h0 := HI.out.1 []
        rw [List.append_nil, vls_bks xs Hxs.out, bks_rev] at h0
        exact h0.trans rfl
      rw [hfb]
    case stop =>
      rintro D c pre W hD hxs ⟨rfl, s, h1, h2, h3, h4, h5, h6, h7⟩ hdef
      have hw2 := h5.cell 0 _ rfl
      have hw3 := h6.cell 0 _ rfl
      have hz2 := h5.frozen 0
      have hz3 := h6.frozen 0
      have HI := Lib.hid (And.intro h1 (And.intro h2 (And.intro h3 (And.intro h4 (And.intro h5 (And.intro h6 h7))))))
      have Hdef := Lib.hid hdef
      have Hxs := Lib.hid hxs
      have HW4 := Lib.hid hW4s
      clear h1 h4 h5 h6 h7 hdef hxs hW4s
      refine wpIn_wide.2 ?_
      go_wp2
      go_region
      all_goals go_wp2
      obtain ⟨W5, hW5⟩ : ∃ W5, ((W.setCell ⟨w.heap.size + 1 + 1, 0, none⟩ (.int .i64 (s.1 : Nat))).setCell ⟨w.heap.size + 1 + 1 + 1, 0, none⟩ (.int .i64 (s.2 : Nat))).drew = W5 := ⟨_, rfl⟩
      obtain ⟨f1, f2, f3, f4⟩ := find_fin HI.out.2.2.2.1 HI.out.2.2.2.2.1 HI.out.2.2.2.2.2.1 hbs (by have := HW4.out; omega) Hdef.out hW5
      rw [hW5]
      refine ⟨by simp, .inl ⟨_, _, rfl, run_takeDeferred f1, ⟨_, res_cc (x := (s.1 : Nat)) (y := (s.2 : Nat)) rfl _ _ _ _ rfl rfl f2 f3, ?_, find_end H.out HB.out.1 HB.out.2.1 H1.out.1 H1.out.2.1 H1.out.2.2.1 H1.out.2.2.2.1 f4⟩⟩⟩
      have hfb : findB all kn' = s := by
        unfold findB
        rw [if_neg (by omega), H2.out.2.2.2.2]
        obtain ⟨j, hj, hpre⟩ := Hxs.out
        obtain ⟨rest, hrest⟩ := bks_pre ps j hj
        have h0 := HI.out.1 rest
        rw [vls_bks pre hpre, hrest] at h0
        exact h0
      rw [hfb]
end Go.Proofs.Ytcpiplfajgdohaa
