/- PackWith answers what packB tells. Conditions: those of each theorem. -/
import Derived.Test.YtcpiplfajgdohaaT12
import Derived.Carry
namespace Go.Proofs.Ytcpiplfajgdohaa
open Go.RowKit Go.Shelf

theorem chunk1_length (ws : List UInt8) (i : Nat) : (chunk1 ws i).length = 1 + min 128 (ws.length - i) := by
  simp [chunk1]; omega
theorem litsB_cks_length (ws : List UInt8) (j : Nat) (h : 128 * (j - 1) ≤ ws.length) : (litsB ws (cks j)).length = min (128 * j) ws.length + j := by
  induction j with
  | zero => simp [litsB, cks]
  | succ j ih =>
    rw [cks_succ]
    unfold litsB at ih ⊢
    rw [List.flatMap_append, List.length_append, ih (by omega)]
    simp only [List.flatMap_cons, List.flatMap_nil, List.append_nil, chunk1_length]
    simp at h
    omega
theorem flushB_length (ws : List UInt8) : (flushB ws).length = ws.length + (ws.length + 127) / 128 := by
  unfold flushB
  rw [litsB_cks_length _ _ (by omega)]
  omega

theorem ext_bound (all : List UInt8) (at_ p : Nat) : ∀ f n, n ≤ ext all at_ p f n ∧ ext all at_ p f n ≤ n + f
  | 0, n => by simp [ext]
  | f + 1, n => by
    unfold ext
    split
    · have := ext_bound all at_ p f (n + 1); omega
    · omega
theorem fnd_bound (all : List UInt8) (at_ : Nat) : ∀ (ps : List Nat) (s : Nat × Nat), (∀ p ∈ ps, p < at_) → (s.2 = 0 ∨ (4 ≤ s.2 ∧ s.2 ≤ 131 ∧ 1 ≤ s.1 ∧ s.1 ≤ 4096)) →
    (fnd all at_ ps s).2 = 0 ∨ (4 ≤ (fnd all at_ ps s).2 ∧ (fnd all at_ ps s).2 ≤ 131 ∧ 1 ≤ (fnd all at_ ps s).1 ∧ (fnd all at_ ps s).1 ≤ 4096)
  | [], s, _, hs => hs
  | p :: ps, s, hp, hs => by
    unfold fnd
    split
    · exact hs
    · rename_i hn
      refine fnd_bound all at_ ps _ (fun q hq => hp q (by simp [hq])) ?_
      unfold fstep
      split
      · have := ext_bound all at_ p 127 4
        have := hp p (by simp)
        refine .inr ⟨by dsimp only; omega, by dsimp only; omega, by dsimp only; omega, by dsimp only; omega⟩
      · exact hs
theorem findB_bound (all : List UInt8) (at_ : Nat) : (findB all at_).2 = 0 ∨ (4 ≤ (findB all at_).2 ∧ (findB all at_).2 ≤ 131 ∧ 1 ≤ (findB all at_).1 ∧ (findB all at_).1 ≤ 4096) := by
  unfold findB
  split
  · exact .inl rfl
  · refine fnd_bound all at_ _ _ (fun p hp => ?_) (.inl rfl)
    rw [List.mem_reverse] at hp
    unfold posOf at hp
    rw [List.mem_filter, List.mem_range] at hp
    exact hp.1

/-- What the packer writes. -/
def pk (all : List UInt8) : Nat → Nat → List UInt8 → List UInt8 → List UInt8
  | 0, _, out, wait => out ++ flushB wait
  | f + 1, at_, out, wait =>
    if at_ < all.length then
      if (findB all at_).2 < 4 then pk all f (at_ + 1) out (wait ++ [all.getD at_ 0])
      else pk all f (at_ + (findB all at_).2) (out ++ flushB wait ++ matB (findB all at_).1 (findB all at_).2) []
    else out ++ flushB wait
/-- .. the bytes b behind a dictionary. -/
def packB (dict b : List UInt8) : List UInt8 := pk (dict.drop (dict.length - 4096) ++ b) b.length (dict.length - (dict.length - 4096)) [] []

theorem run_slice_lo (w : World) (A : Option Addr) (n c k : Nat) (hk : k ≤ n) (hc : n ≤ c) :
    (Instr.slice 22 (.slice A n c) (some (.int .i64 (k : Int))) none none).run Try.prog w = .ok (if c = k then .slice A (n - k) 0 else .slice (A.map (·.add k)) (n - k) (c - k)) w := by
  have hu := Try.underlying22
  obtain ⟨i, hi, hzz⟩ := Option.map_eq_some_iff.1 info5
  simp only [Prod.mk.injEq] at hzz
  have hnk : ¬ n < k := by omega
  have hnk' : ¬ (n : Int) < k := by omega
  by_cases hck : c = k
  · have hnk : n = k := by omega
    subst hck hnk
    simp [Instr.slice, Instr.sliceBounds, Instr.sliceBound, hk, hc, run_underlying hu, sizeOf, typeInfo, hi, hzz, asInt, asIntOf]
  · simp [Instr.slice, Instr.sliceBounds, Instr.sliceBound, hk, hc, hnk, hnk', run_underlying hu, sizeOf, typeInfo, hi, hzz, hck, asInt, asIntOf]

theorem wpList_slice_lo {ops : Array Oper} {rest : List Oper} {o : Oper} {a : Act} {Q : Exit → Act → World → Prop} {w : World} (hgd : o.guard = none) (s lo : Operand) (ho : o.op = .slice 22 s (some lo) none none)
    (A : Option Addr) (n c k : Nat) (vs : List Value) (hs : a.eval s = .slice A n c) (hlo : a.eval lo = .int .i64 (k : Int)) (hk : k ≤ n) (hr : RdV w A n c vs)
    (h : ∀ A' c', RdV w A' (n - k) c' (vs.drop k) → wpList Try.prog ops Q rest (a.put o.dst (.slice A' (n - k) c')) w) : wpList Try.prog ops Q (o :: rest) a w := by
  have hc := hr.cap
  refine wpList_plain hgd fun K hK => ?_
  have hrun := run_slice_lo w A n c k hk hc
  by_cases hck : c = k
  · rw [if_pos hck] at hrun
    refine wp_run (v := .slice A (n - k) 0) (w' := w) ?_ (hK _ _ (h A 0 ?_))
    · simp only [execOp, ho, Option.map_some, Option.map_none, hs, hlo]
      simp [run_sliceAt_slice (P := Try.prog) (h := (show Try.prog.underlying 22 = some (.slice (Try.prog.elem 22)) from Try.underlying22)), hrun]
    · have : n - k = 0 := by omega
      rw [this, List.drop_eq_nil_of_le (by rw [hr.len]; omega)]
      exact RdV.nil _ _ _
  · rw [if_neg hck] at hrun
    refine wp_run (v := .slice (A.map (·.add k)) (n - k) (c - k)) (w' := w) ?_ (hK _ _ (h _ _ (hr.cut_map k (c - k) hk (by omega))))
    simp only [execOp, ho, Option.map_some, Option.map_none, hs, hlo]
    simp [run_sliceAt_slice (P := Try.prog) (h := (show Try.prog.underlying 22 = some (.slice (Try.prog.elem 22)) from Try.underlying22)), hrun]

theorem pk_find {w W w1 : World} {F M g : Nat} {Aa Ao Aw : Option Addr} {ca co cw : Nat} {all out wait : List UInt8} {kn : Nat} {l : List PE} (hF : Fd W w.heap.size F M Aa ca all kn l) (hW : Wr W w.heap.size g Ao co Aw cw out wait) (hN : New w W) (hm : Mod (Sf F M l) W w1) :
    Wr w1 w.heap.size g Ao co Aw cw out wait ∧ New w w1 := by
  have hS : ∀ k, Sf F M l k → k ≠ g ∧ ¬ At Ao k ∧ ¬ At Aw k := by
    rintro k (rfl | rfl | ⟨e, he, hk⟩)
    · exact ⟨fun e => (hW.blk.ne_ hF.blk (by decide)) e.symm, OwnV.at_ne hW.own hF.blk (by decide), OwnV.at_ne hW.ownw hF.blk (by decide)⟩
    · exact ⟨fun e => (hW.blk.ne_map hF.map) e.symm, OwnV.at_ne_map hW.own hF.map, OwnV.at_ne_map hW.ownw hF.map⟩
    · obtain ⟨cs, hb⟩ := OwnV.at_row (hF.rows e he) k hk
      exact ⟨fun e => (hW.blk.ne_ hb (by decide)) e.symm, OwnV.at_ne hW.own hb (by decide), OwnV.at_ne hW.ownw hb (by decide)⟩
  refine ⟨⟨hW.blk.mod hm (fun h => (hS g h).1 rfl), OwnV.keep hW.own hm (fun k hk h => (hS k h).2.1 hk), OwnV.keep hW.ownw hm (fun k hk h => (hS k h).2.2 hk), hW.apart⟩, hN.trans hm (fun k hk h => ?_)⟩
  rcases h with rfl | rfl | ⟨e, he, hk'⟩
  · have := hF.bF; omega
  · have := hF.bM; omega
  · have := (OwnV.at_base (hF.rows e he) k hk').1; omega

theorem pk_write {w W w1 : World} {F M g : Nat} {A Aa Ao Aw : Option Addr} {ca co cw : Nat} {all out wait : List UInt8} {kn : Nat} {l : List PE} (hF : Fd W w.heap.size F M Aa ca all kn l) (hW : Wr W w.heap.size g Ao co Aw cw out wait) (hN : New w W) (hsep : ∀ k, At Aa k → ¬ At Ao k ∧ ¬ At Aw k)
    (hA : A = Ao ∨ A = Aw) (hm : Mod (fun k => k = g ∨ At A k) W w1) (hg : w.heap.size ≤ g) : Fd w1 w.heap.size F M Aa ca all kn l ∧ New w w1 := by
  have hown : ∃ (c : Nat) (xs : List UInt8), OwnB W w.heap.size A c xs := by
    rcases hA with rfl | rfl
    · exact ⟨_, _, hW.own⟩
    · exact ⟨_, _, hW.ownw⟩
  obtain ⟨c, xs, ho⟩ := hown
  refine ⟨hF.far hm (fun k hk h => ?_), hN.trans hm (fun k hk h => ?_)⟩
  · rcases h with rfl | h
    · refine ⟨?_, fun hA' => OwnV.at_ne hF.own hW.blk (by decide) hA'⟩
      rintro (e | e | ⟨e, he, hk'⟩)
      · exact (hW.blk.ne_ hF.blk (by decide)) e
      · exact (hW.blk.ne_map hF.map) e
      · exact OwnV.at_ne (hF.rows e he) hW.blk (by decide) hk'
    · refine ⟨?_, fun hA' => by rcases hA with rfl | rfl; exact (hsep k hA').1 h; exact (hsep k hA').2 h⟩
      rintro (e | e | ⟨e, he, hk'⟩)
      · subst e; exact OwnV.at_ne ho hF.blk (by decide) h
      · subst e; exact OwnV.at_ne_map ho hF.map h
      · obtain ⟨cs, hb⟩ := OwnV.at_row (hF.rows e he) k hk'
        exact OwnV.at_ne ho hb (by decide) h
  · rcases h with rfl | h
    · omega
    · have := (OwnV.at_base ho k h).1; omega

/-- The packer's loop, at place at_. -/
def PkI (w : World) (F M g : Nat) (Aa : Option Addr) (ca : Nat) (all P : List UInt8) (at_ : Nat) (W : World) : Prop :=
  ∃ kn l Ao co Aw cw out wait f, Fd W w.heap.size F M Aa ca all kn l ∧ Wr W w.heap.size g Ao co Aw cw out wait ∧ kn ≤ at_ ∧ New w W ∧ (∀ k, At Aa k → ¬ At Ao k ∧ ¬ At Aw k) ∧ P = pk all f at_ out wait ∧ all.length ≤ at_ + f ∧ out.length + 2 * wait.length ≤ 2 * at_

set_option maxRecDepth 100000 in
set_option maxHeartbeats 1000000 in
theorem packWith_ok (A1 : Option Addr) (n1 c1 : Nat) (dict : List UInt8) (A2 : Option Addr) (n2 c2 : Nat) (b : List UInt8) (w : World) (h1 : RdB w A1 n1 c1 dict) (h2 : RdB w A2 n2 c2 b) (hn1 : (n1 : Int) ≤ 1048576) (hn2 : (n2 : Int) ≤ 1048576) :
    Calls Try.prog 12 #[.slice A1 n1 c1, .slice A2 n2 c2] w fun e w' => ∃ A c, e = .returned (.tuple #[.slice A (packB dict b).length c, .int .i64 0]) ∧ OwnB w' w.heap.size A c (packB dict b) ∧ New w w' := by
  have hmm := @run_makeMap Try.prog
  go_enter Try.func12, Try.ntmps12
  obtain ⟨k, hk⟩ : ∃ k, k = n1 - 4096 := ⟨_, rfl⟩
  have hmax : (if (4096 : Int) < (n1 : Int) then (n1 : Int) - 4096 else 0) = (k : Int) := by split <;> omega
  have hmax2 : (if (0 : Int) < (n1 : Int) - 4096 then (n1 : Int) - 4096 else 0) = (k : Int) := by split <;> omega
  have hkn : k ≤ n1 := by omega
  have Hk := Lib.hid hk
  clear hk
  have H1 := Lib.hid h1
  have H2 := Lib.hid h2
  clear h1 h2
  go_wp2_with (first
    | (refine wpList_slice_lo rfl _ _ rfl A1 n1 c1 k (bts dict) rfl rfl hkn H1.out ?_; intro A3 c3 hr3; have H3 := Lib.hid hr3; clear hr3)
    | (go_at_call 25; go_must (refine (concat_two w.heap.size A3 A2 (n1 - k) c3 n2 c2 (dict.drop k) b _ (Blk.fresh w 22 _) ?hca ?hcb (by omega) hn2).mono ?_; (case hca => exact RdV.new (by rw [show bts (dict.drop k) = (bts dict).drop k from by simp [bts, List.map_drop]]; exact H3.out) ((Mod.refl _ _).alloc _)); (case hcb => exact RdV.new H2.out ((Mod.refl _ _).alloc _)); rintro e W1 ⟨Aa, ca, rfl, hown, hnew⟩; have H4 := Lib.hid (And.intro hown hnew); clear hown hnew)))
  obtain ⟨W2, hW2⟩ : ∃ W2, (((W1.alloc (.map #[] 0)).alloc (.cells #[.slice Aa (n1 - k + n2) ca, .map (some W1.heap.size), .int .i64 0] 61)).alloc (.cells #[.slice none 0 0, .slice none 0 0] 63)) = W2 := ⟨_, rfl⟩
  have hall : (dict.drop k ++ b).length = n1 - k + n2 := by
    have h1 := H1.out.blen
    have h2 := H2.out.blen
    rw [List.length_append, List.length_drop]; omega
  have hi0 : PkI w (W1.heap.size + 1) W1.heap.size (W1.heap.size + 1 + 1) Aa ca (dict.drop k ++ b) (packB dict b) (n1 - k) W2 := by
    have hbw : w.heap.size ≤ W1.heap.size := by have := H4.out.2.size; simp at this; omega
    have hN1 : New w W1 := ((Mod.refl _ _).alloc _).trans H4.out.2 (fun _ _ h => h)
    have hN2 : New W1 W2 := by rw [← hW2]; exact (((Mod.refl _ _).alloc _).alloc _).alloc _
    have hlenb : b.length = n2 := H2.out.blen
    have hlend : dict.length = n1 := H1.out.blen
    have hown : OwnB W2 w.heap.size Aa ca (dict.drop k ++ b) := OwnV.lower (OwnV.new H4.out.1 hN2) (by simp)
    have hM : MapB W2 W1.heap.size [] := by
      rw [← hW2]
      have h0 : MapB (W1.alloc (.map #[] 0)) W1.heap.size [] := heap_alloc_new W1 _
      exact (h0.mod (((Mod.refl (fun _ => False) _).alloc _).alloc _) (fun h => h))
    have hF : Blk W2 (W1.heap.size + 1) 61 #[.slice Aa (n1 - k + n2) ca, .map (some W1.heap.size), .int .i64 0] := by
      rw [← hW2]
      have := Blk.fresh (W1.alloc (.map #[] 0)) 61 #[.slice Aa (n1 - k + n2) ca, .map (some W1.heap.size), .int .i64 0]
      rw [World.size_alloc] at this
      exact this.alloc _
    have hG : Blk W2 (W1.heap.size + 1 + 1) 63 #[.slice none 0 0, .slice none 0 0] := by
      rw [← hW2]
      have := Blk.fresh ((W1.alloc (.map #[] 0)).alloc (.cells #[.slice Aa (n1 - k + n2) ca, .map (some W1.heap.size), .int .i64 0] 61)) 63 #[.slice none 0 0, .slice none 0 0]
      rw [World.size_alloc, World.size_alloc] at this
      exact this
    rw [← hall] at hF
    refine ⟨0, [], none, 0, none, 0, [], [], b.length, ⟨hF, hown, hM, by simp, by simp, ?_, by omega, by omega⟩, ⟨hG, OwnV.nil _ _ _, OwnV.nil _ _ _, by simp [At]⟩, by omega, hN1.trans hN2 (fun _ _ h => h), fun k hk => ⟨by simp [At], by simp [At]⟩, ?_, ?_, by simp⟩
    · exact ⟨by simp, by simp, by simp, fun k hk hp => absurd (by simp [posOf]) hp⟩
    · have hk1 := Hk.out
      subst hk1
      rw [packB, hlend]
    · rw [hall, hlenb]; omega
  rw [hW2]
  obtain ⟨all, hal⟩ : ∃ all, dict.drop k ++ b = all := ⟨_, rfl⟩
  rw [hal] at hi0 hall
  have hsz : ((n1 - k + n2 : Nat) : Int) ≤ 1052672 := by have := Hk.out; omega
  rw [← hall] at hsz ⊢
  have Hal := Lib.hid hal
  have Hall := Lib.hid hall
  clear hal hW2 hall
  go_loopw [8] (fun u wr => ∃ at_ : Nat, u = .int .i64 (at_ : Int) ∧ at_ ≤ all.length + 131 ∧ Hid (PkI w (W1.heap.size + 1) W1.heap.size (W1.heap.size + 1 + 1) Aa ca all (packB dict b) at_ wr)) (fun u _ => all.length + 131 - (intOf u).toNat)
  case atStart => exact ⟨n1 - k, rfl, by have := Hall.out; omega, hi0⟩
  case round =>
    obtain ⟨at_, rfl, hat, Hi⟩ := hrel
    have Hi' := Hi.out
    obtain ⟨kn, l, Ao, co, Aw, cw, out, wait, f, hF, hW, hkn', hN, hsep, hP, hf, hlen⟩ := Hi'
    have hc0 := hF.blk.cell 0 _ rfl
    have hg0 := hW.blk.cell 0 _ rfl
    have HI := Lib.hid (And.intro hF (And.intro hW (And.intro hkn' (And.intro hN (And.intro hsep (And.intro hP (And.intro hf hlen)))))))
    clear hF hW hkn' hN hsep hP hf hlen
    by_cases hlt : (at_ : Int) < all.length
    · obtain ⟨bb, oo, rfl⟩ := (OwnB.rd HI.out.1.own).addr (by omega)
      have hcap : at_ < ca := by have := (OwnB.rd HI.out.1.own).cap; omega
      obtain ⟨d, n, hdn⟩ : ∃ d n, findB all at_ = (d, n) := ⟨_, _, rfl⟩
      have hbd := findB_bound all at_
      rw [hdn] at hbd
      dsimp only at hbd
      have hfa := find_any w.heap.size (W1.heap.size + 1) W1.heap.size (some ⟨bb, oo, none⟩) ca all kn l at_ wr HI.out.1 HI.out.2.2.1 (by omega) (by omega)
      rw [hdn] at hfa
      obtain ⟨y, hy⟩ : ∃ y, all.getD at_ 0 = y := ⟨_, rfl⟩
      have Hdn := Lib.hid (And.intro hdn (And.intro hy hfa))
      have hn131 : (n : Int) ≤ 131 := by omega
      obtain ⟨f', hf'⟩ : ∃ f', f = f' + 1 := ⟨f - 1, by have := HI.out.2.2.2.2.2.2.1; omega⟩
      subst hf'
      have hwl : wait.length ≤ 3000000 := by have := HI.out.2.2.2.2.2.2.2; omega
      have hol : out.length ≤ 20000000 := by have := HI.out.2.2.2.2.2.2.2; omega
      clear hfa hdn
      by_cases hn : (n : Int) < 4
      · go_wp2_with (first
          | (go_at_call 26; go_must (refine Hdn.out.2.2.mono ?_; rintro e w1 ⟨rfl, kn', l', hF1, hm1, hg1, hk1⟩; obtain ⟨hW1', hN1⟩ := pk_find HI.out.1 HI.out.2.1 HI.out.2.2.2.1 hm1; have hd0 := hF1.blk.cell 0 _ rfl; have hcy := (OwnB.rd hF1.own).byteD at_ (by omega); rw [Hdn.out.2.1] at hcy; have H5 := Lib.hid (And.intro hF1 (And.intro hW1' (And.intro hN1 hk1))); clear hF1 hm1 hg1 hk1 hW1' hN1))
          | (go_at_call 27; go_must (refine (literal_any w.heap.size (W1.heap.size + 1 + 1) Ao co Aw cw out wait y w1 H5.out.2.1 H5.out.2.2.1.size hwl).mono ?_; rintro e w2 ⟨rfl, Aw', cw', hW2, hm2, hk2⟩; have H6 := Lib.hid (And.intro hW2 (And.intro hm2 hk2)); clear hW2 hm2 hk2)))
        obtain ⟨e1, e2⟩ := pk_write H5.out.1 H5.out.2.1 H5.out.2.2.1 HI.out.2.2.2.2.1 (.inr rfl) H6.out.2.1 (by have := H4.out.2.size; simp at this; omega)
        go_roundw
        case rel =>
          refine ⟨at_ + 1, by go_num, by omega, kn', l', Ao, co, Aw', cw', out, wait ++ [y], f', e1, H6.out.1, by have := H5.out.2.2.2; omega, e2, fun k hk => ⟨(HI.out.2.2.2.2.1 k hk).1, fun hk' => ?_⟩, ?_, by have := HI.out.2.2.2.2.2.2.1; omega, by have := HI.out.2.2.2.2.2.2.2; rw [List.length_append]; simp; omega⟩
          · rcases H6.out.2.2 k hk' with h | h
            · exact (HI.out.2.2.2.2.1 k hk).2 h
            · have := (OwnV.at_base H5.out.1.own k hk).2; omega
          · rw [HI.out.2.2.2.2.2.1, pk, if_pos (by omega), Hdn.out.1, if_pos (by dsimp only; omega), Hdn.out.2.1]
        case measure => simp [intOf]; omega
      · go_wp2_with (first
          | (go_at_call 26; go_must (refine Hdn.out.2.2.mono ?_; rintro e w1 ⟨rfl, kn', l', hF1, hm1, hg1, hk1⟩; obtain ⟨hW1', hN1⟩ := pk_find HI.out.1 HI.out.2.1 HI.out.2.2.2.1 hm1; have H5 := Lib.hid (And.intro hF1 (And.intro hW1' (And.intro hN1 hk1))); clear hF1 hm1 hg1 hk1 hW1' hN1))
          | (go_at_call 28; go_must (refine (match_any w.heap.size (W1.heap.size + 1 + 1) Ao co Aw cw out wait d n w1 H5.out.2.1 H5.out.2.2.1.size hwl hol (by omega) (by omega) (by omega) hn131).mono ?_; rintro e w2 ⟨rfl, Ao', co', hW2, hm2, hk2⟩; have H6 := Lib.hid (And.intro hW2 (And.intro hm2 hk2)); clear hW2 hm2 hk2)))
        obtain ⟨e1, e2⟩ := pk_write H5.out.1 H5.out.2.1 H5.out.2.2.1 HI.out.2.2.2.2.1 (.inl rfl) H6.out.2.1 (by have := H4.out.2.size; simp at this; omega)
        go_roundw
        case rel =>
          have hfl := flushB_length wait
          have hml : (matB d n).length = 3 := rfl
          refine ⟨at_ + n, by go_num, by omega, kn', l', Ao', co', Aw, cw, _, [], f', e1, H6.out.1, by have := H5.out.2.2.2; omega, e2, fun k hk => ⟨fun hk' => ?_, (HI.out.2.2.2.2.1 k hk).2⟩, ?_, by have := HI.out.2.2.2.2.2.2.1; omega, by have := HI.out.2.2.2.2.2.2.2; rw [List.length_append, List.length_append, hfl, hml]; simp; omega⟩
          · rcases H6.out.2.2 k hk' with h | h
            · exact (HI.out.2.2.2.2.1 k hk).1 h
            · have := (OwnV.at_base H5.out.1.own k hk).2; omega
          · rw [HI.out.2.2.2.2.2.1, pk, if_pos (by omega), Hdn.out.1, if_neg (by dsimp only; omega)]
        case measure => simp [intOf]; omega
    · go_wp2_with (go_at_call 29; go_must (refine (flush_any w.heap.size (W1.heap.size + 1 + 1) Ao co Aw cw out wait wr HI.out.2.1 HI.out.2.2.2.1.size (by have := HI.out.2.2.2.2.2.2.2; omega) (by have := HI.out.2.2.2.2.2.2.2; omega)).mono ?_; rintro e w2 ⟨rfl, Ao', co', hW2, hm2, hk2⟩; have he0 := hW2.blk.cell 0 _ rfl; have H6 := Lib.hid (And.intro hW2 (And.intro hm2 hk2)); clear hW2 hm2 hk2))
      have hP : packB dict b = out ++ flushB wait := by
        rw [HI.out.2.2.2.2.2.1]
        cases f with
        | zero => rfl
        | succ f => rw [pk, if_neg (by omega)]
      have hN2 : New w w2 := (pk_write HI.out.1 HI.out.2.1 HI.out.2.2.2.1 HI.out.2.2.2.2.1 (.inl rfl) H6.out.2.1 (by have := H4.out.2.size; simp at this; omega)).2
      go_ret2
      rw [hP, List.length_append]
      exact ⟨Ao', co', rfl, H6.out.1.own, hN2⟩
end Go.Proofs.Ytcpiplfajgdohaa
