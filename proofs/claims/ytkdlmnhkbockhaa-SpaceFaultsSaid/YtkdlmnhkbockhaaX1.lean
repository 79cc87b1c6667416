/- Fork. Conditions: those of each theorem. -/
import Derived.Test.YtkdlmnhkbockhaaX0
import Derived.StillTailTactics
namespace Go.Proofs.Ytkdlmnhkbockhaa
open Go.RowKit

/-- A page's entry in the child. -/
def ch (p : Pg) : Pg := ⟨true, false, p.copy.isSome, false, p.copy⟩
def forkC (ps : List Pg) (j : Nat) : List Pg := (ps.take j).map ch ++ List.replicate (64 - j) Pg.zero
def clr (k : Nat) (s : VS) : VS :=
  match s.1[k]? with
  | some v => (s.1.set k { v with own := false }, s.2)
  | none => s
/-- The parent's state after Fork. -/
def forkN (A : Ask) : Nat → VS → VS
  | 0, s => s
  | j + 1, s => clr j (needS A j (forkN A j s))
def childV (v : VP) : VP := ⟨true, v.there, false, v.there, v.bytes, false⟩
def childS (s : VS) : VS := (s.1.map childV, [])

theorem Blk.put5 {w : World} {C : Nat} {src : Value} {pc : List Pg} {k : Nat} {q p' : Pg} (h : Blk w C 87 (spC src pc).toArray) (hk : pc[k]? = some q) :
    Blk (((((w.setCell ⟨C, 1 + k * 5, none⟩ (.bool p'.known)).setCell ⟨C, 1 + k * 5 + 1, none⟩ (.bool p'.asked)).setCell ⟨C, 1 + k * 5 + 2, none⟩ (.bool p'.changed)).setCell ⟨C, 1 + k * 5 + 3, none⟩ (.bool p'.own)).setCell ⟨C, 1 + k * 5 + 4, none⟩ (ptr p'.copy)) C 87 (spC src (pc.set k p')).toArray := by
  have h0 := h.put (1 + k * 5 + 0) (.bool p'.known)
  rw [List.setIfInBounds_toArray, spC_set src (p' := { q with known := p'.known }) hk (by decide) rfl] at h0
  have hk0 := set_get (y := { q with known := p'.known }) hk
  have h1 := h0.put (1 + k * 5 + 1) (.bool p'.asked)
  rw [List.setIfInBounds_toArray, spC_set src (p' := { q with known := p'.known, asked := p'.asked }) hk0 (by decide) rfl, List.set_set] at h1
  have hk1 := set_get (y := { q with known := p'.known, asked := p'.asked }) hk
  have h2 := h1.put (1 + k * 5 + 2) (.bool p'.changed)
  rw [List.setIfInBounds_toArray, spC_set src (p' := { q with known := p'.known, asked := p'.asked, changed := p'.changed }) hk1 (by decide) rfl, List.set_set] at h2
  have hk2 := set_get (y := { q with known := p'.known, asked := p'.asked, changed := p'.changed }) hk
  have h3 := h2.put (1 + k * 5 + 3) (.bool p'.own)
  rw [List.setIfInBounds_toArray, spC_set src (p' := { q with known := p'.known, asked := p'.asked, changed := p'.changed, own := p'.own }) hk2 (by decide) rfl, List.set_set] at h3
  have hk3 := set_get (y := { q with known := p'.known, asked := p'.asked, changed := p'.changed, own := p'.own }) hk
  have h4 := h3.put (1 + k * 5 + 4) (ptr p'.copy)
  rw [List.setIfInBounds_toArray, spC_set src (p' := p') hk3 (by decide) rfl, List.set_set] at h4
  exact h4
theorem Stp0.row {A : Ask} {w w1 w2 : World} {S : Nat} {ps ps' : List Pg} {fr fr' : Nat → List UInt8} {D : Nat → Prop} (h : Stp0 A w w1 S ps ps' fr fr') (hm : Mod D w1 w2) (hD : ∀ i, D i → w.heap.size ≤ i) : Stp0 A w w2 S ps ps' fr fr' :=
  ⟨h.mod.trans hm (fun i hi hd => by have := hD i hd; omega), h.own, h.ref, h.fr⟩
theorem run_build87_ (w : World) : (Instr.build 87 #[]).run Try.prog w = .ok (.agg (spC .nilFunc zeroPs).toArray) w := by
  refine run_build w 87 _ _ ?_
  kernel_rfl
theorem i82n (w : World) (g : Option Nat) : (binOp BinOp.neq 82 (ptr g) (.pointer none)).run Try.prog w = .ok (.bool g.isSome) w := by
  cases g <;> kernel_rfl

set_option maxRecDepth 100000 in
set_option maxHeartbeats 1000000 in
theorem fork_ok {A : Ask} (hA : NeedOk A) (S : Nat) (ps : List Pg) (fr : Nat → List UInt8) (log : List Nat) (w : World) (h : Spi A w S ps fr log) :
    Calls Try.prog 14 #[.pointer (some ⟨S, 0, none⟩)] w fun e w' => e = .returned (.pointer (some ⟨w.heap.size, 0, none⟩)) ∧
      ∃ ps' fr', Spi A w' S ps' fr' (forkN A 64 (vps ps fr, log)).2 ∧ vps ps' fr' = (forkN A 64 (vps ps fr, log)).1 ∧ Stp0 A w w' S ps ps' fr fr' ∧ (∀ p ∈ ps', p.own = false) ∧ Blk w' w.heap.size 87 (spC .nilFunc (ps'.map ch)).toArray := by
  have hb := run_build87_
  obtain ⟨Z, hZ⟩ : ∃ Z, (spC .nilFunc zeroPs).toArray = Z := ⟨_, rfl⟩
  rw [hZ] at hb
  have hx := @run_box Try.prog
  have H := Lib.hid (And.intro h hZ)
  have hi82 := i82n
  clear h hZ
  go_enter Try.func14, Try.ntmps14
  go_upto_region 3 with fail
  refine wp_region_lit ?_
  refine wpList_build rfl 87 #[] rfl (.agg Z) #[] (by simp) (hb w) ?_
  go_wp2
  go_loopw [10] (fun i wr => ∃ j : Nat, i = .int .i64 (j : Int) ∧ j ≤ 64 ∧ Hid (∃ ps' fr', Spi A wr S ps' fr' (forkN A j (vps ps fr, log)).2 ∧ vps ps' fr' = (forkN A j (vps ps fr, log)).1 ∧ Stp0 A w wr S ps ps' fr fr' ∧ (∀ k p, k < j → ps'[k]? = some p → p.own = false) ∧ Blk wr w.heap.size 87 (spC .nilFunc (forkC ps' j)).toArray)) (fun i _ => 64 - (intOf i).toNat)
  case atStart =>
    refine ⟨0, rfl, by omega, ⟨ps, fr, H.out.1.new ((Mod.refl _ _).alloc _), rfl, (Stp.new ((Mod.refl _ _).alloc _)).toStp0, fun k p hk => by omega, ?_⟩⟩
    rw [← H.out.2]
    exact Blk.fresh _ _ _
  case round =>
    obtain ⟨j, rfl, hj, HC⟩ := hrel
    by_cases hlt : (j : Int) < 64
    · obtain ⟨ps1, fr1, hsp1, hv1, hst1, hown1, hC1⟩ := HC.out
      obtain ⟨p, hp⟩ := hsp1.get (k := j) (by omega)
      have hnk := hA wr S ps1 fr1 _ j p hsp1 hp
      have HS := Lib.hid (And.intro hnk (And.intro hsp1 (And.intro hv1 (And.intro hst1 (And.intro hown1 (And.intro hC1 hp))))))
      clear hnk hsp1 hv1 hst1 hown1 hC1 hp
      have hfacts : ∀ w1 ps2 fr2, Spi A w1 S ps2 fr2 (needL A j (vp fr1 p) (forkN A j (vps ps fr, log)).2) → vps ps2 fr2 = (vps ps1 fr1).set j (needV A j (vp fr1 p)) → Stp A wr w1 S ps1 ps2 fr1 fr2 →
          (∃ p2, ps2[j]? = some p2 ∧ vp fr2 p2 = needV A j (vp fr1 p)) ∧ Blk w1 w.heap.size 87 (spC .nilFunc (forkC ps2 j)).toArray ∧ (∀ k p, k < j → ps2[k]? = some p → p.own = false) := fun w1 ps2 fr2 hsp2 hv2 hst2 => by
        obtain ⟨-, hsp1, hv1, hst1, hown1, hC1, hp⟩ := HS.out
        have hkk : ∀ k p, k < j → ps2[k]? = some p → p.own = false ∧ ∃ q, ps1[k]? = some q ∧ ch p = ch q := fun k p' hk hp' => by
          obtain ⟨q, hq⟩ := hsp1.get (k := k) (by omega)
          have h1 := vps_get (fr := fr2) hp'
          rw [hv2, List.getElem?_set_ne (by omega), vps_get hq] at h1
          injection h1 with h1
          have ho : p'.own = false := by
            have : (vp fr1 q).own = (vp fr2 p').own := by rw [h1]
            exact (hown1 k q hk hq ▸ this : false = p'.own).symm
          refine ⟨ho, q, hq, ?_⟩
          have hcs : q.copy.isSome = p'.copy.isSome := by
            have : (vp fr1 q).there = (vp fr2 p').there := by rw [h1]
            exact this
          have hc : p'.copy = q.copy := by
            cases hpc : p'.copy with
            | none =>
              rw [hpc] at hcs
              cases hqc : q.copy with
              | none => rfl
              | some g => rw [hqc] at hcs; cases hcs
            | some g =>
              have := (hst2.keep k q p' hq hp' ho (by rw [hpc]; rfl)).1
              rw [← hpc]
              exact this
          unfold ch
          rw [hc]
        refine ⟨after_need hsp2 hv2 hp, ?_, fun k p' hk hp' => (hkk k p' hk hp').1⟩
        have hfc : forkC ps2 j = forkC ps1 j := by
          unfold forkC
          congr 1
          apply List.ext_getElem?
          intro k
          rw [List.getElem?_map, List.getElem?_map, List.getElem?_take, List.getElem?_take]
          by_cases hk : k < j
          · rw [if_pos hk, if_pos hk]
            obtain ⟨p', hp'⟩ := hsp2.get (k := k) (by omega)
            obtain ⟨-, q, hq, hch⟩ := hkk k p' hk hp'
            rw [hp', hq, Option.map_some, Option.map_some, hch]
          · rw [if_neg hk, if_neg hk]
        rw [hfc]
        refine hC1.mod hst2.mod fun e => ?_
        rcases e with e | ⟨q, hq, _, hc⟩ | e
        · have := H.out.1.sp.blk.lt; omega
        · exact Blk.ne_ (hsp1.sp.frm q hq _ hc).1 hC1 (by decide) rfl
        · have := A.old _ _ H.out.1.j _ e; omega
      have HF := Lib.hid hfacts
      have hne1 : ¬ S = w.heap.size := by have := H.out.1.sp.blk.lt; omega
      have hne2 : ¬ w.heap.size = S := by omega
      clear hfacts
      go_wp2_with (go_at_call 33; with_reducible (refine HS.out.1.mono ?_); rintro e w1 ⟨rfl, ps2, fr2, hsp2, hv2, hst2⟩; obtain ⟨⟨p2, hp2, hvp2⟩, hC2, hown2⟩ := HF.out w1 ps2 fr2 hsp2 hv2 hst2; have c3 := hsp2.sp.get (j := 3) hp2 rfl; have c4 := hsp2.sp.get (j := 4) hp2 rfl; have f3 := hsp2.sp.frozen (1 + j * 5 + 3); have H1 := Lib.hid (And.intro hsp2 (And.intro hv2 (And.intro hst2 (And.intro hp2 (And.intro hvp2 (And.intro hC2 hown2)))))); clear hsp2 hv2 hst2 hp2 hvp2 hC2 hown2)
      have hz : (forkC ps2 j)[j]? = some Pg.zero := by
        unfold forkC
        rw [List.getElem?_append_right (by rw [List.length_map, List.length_take]; omega), List.getElem?_replicate, if_pos (by rw [List.length_map, List.length_take, H1.out.1.sp.len]; omega)]
      have gt : ∀ i u, i < 5 → (pgC Pg.zero)[i]? = some u → w1.cell? ⟨w.heap.size, 1 + j * 5 + i, none⟩ = some u := fun i u hi hu => by
        refine H1.out.2.2.2.2.2.1.cell _ _ ?_
        rw [List.getElem?_toArray, spC_get _ hz hi, hu]
      have d0 : w1.cell? ⟨w.heap.size, 1 + j * 5, none⟩ = some (.bool false) := gt 0 _ (by decide) rfl
      have d1 : w1.cell? ⟨w.heap.size, 1 + j * 5 + 1, none⟩ = some (.bool false) := gt 1 _ (by decide) rfl
      have d2 : w1.cell? ⟨w.heap.size, 1 + j * 5 + 2, none⟩ = some (.bool false) := gt 2 _ (by decide) rfl
      have d3 : w1.cell? ⟨w.heap.size, 1 + j * 5 + 3, none⟩ = some (.bool false) := gt 3 _ (by decide) rfl
      have d4 : w1.cell? ⟨w.heap.size, 1 + j * 5 + 4, none⟩ = some (.pointer none) := gt 4 _ (by decide) rfl
      have g0 := H1.out.2.2.2.2.2.1.frozen (1 + j * 5)
      have g1 := H1.out.2.2.2.2.2.1.frozen (1 + j * 5 + 1)
      have g2 := H1.out.2.2.2.2.2.1.frozen (1 + j * 5 + 2)
      have g3 := H1.out.2.2.2.2.2.1.frozen (1 + j * 5 + 3)
      have g4 := H1.out.2.2.2.2.2.1.frozen (1 + j * 5 + 4)
      have HZ := Lib.hid hz
      clear gt hz
      have hend : ∀ (w3 : World), w3 = ((((((w1.setCell ⟨S, 1 + j * 5 + 3, none⟩ (.bool false)).setCell ⟨w.heap.size, 1 + j * 5, none⟩ (.bool true)).setCell ⟨w.heap.size, 1 + j * 5 + 1, none⟩ (.bool false)).setCell ⟨w.heap.size, 1 + j * 5 + 2, none⟩ (.bool p2.copy.isSome)).setCell ⟨w.heap.size, 1 + j * 5 + 3, none⟩ (.bool false)).setCell ⟨w.heap.size, 1 + j * 5 + 4, none⟩ (ptr p2.copy)).drew →
          ∃ ps' fr', Spi A w3 S ps' fr' (forkN A (j + 1) (vps ps fr, log)).2 ∧ vps ps' fr' = (forkN A (j + 1) (vps ps fr, log)).1 ∧ Stp0 A w w3 S ps ps' fr fr' ∧ (∀ k p, k < j + 1 → ps'[k]? = some p → p.own = false) ∧ Blk w3 w.heap.size 87 (spC .nilFunc (forkC ps' (j + 1))).toArray := fun w3 hw3 => by
        obtain ⟨-, hsp1, hv1, hst1, hown1, hC1, hp⟩ := HS.out
        obtain ⟨hsp2, hv2, hst2, hp2, hvp2, hC2, hown2⟩ := H1.out
        have hkn2 : p2.known = true := by
          have := needV_known A j (vp fr1 p)
          rw [← hvp2] at this
          exact this
        have hCS : w.heap.size ≠ S := hne2
        have s3 := hsp2.sp.put_ hp2 3 { p2 with own := false } (.bool false) (by decide) rfl rfl
        obtain ⟨a, b, c⟩ := hsp2.updS (log' := needL A j (vp fr1 p) (forkN A j (vps ps fr, log)).2) hp2 s3 (Mod.mono (S := fun i => i = S) (by refine Mod.setCell (Mod.refl _ _) _ _ ?_; exact fun _ => rfl) fun _ _ e => .inl e) hkn2
          (A.stay (fun i => i = S) _ _ _ hsp2.j (by refine Mod.setCell (Mod.refl _ _) _ _ ?_; exact fun _ => rfl) fun i _ e => by subst e; exact hsp2.far.1)
          (fun hA => ⟨(hsp2.lg hA).1, fun k => ((hsp2.lg hA).2 k).trans (askedP_set (p' := { p2 with own := false }) hp2 rfl k).symm⟩) (.inl ⟨rfl, fun h => by cases h⟩) (fun _ _ => rfl)
        have hm3 : Mod (fun i => i = w.heap.size) (w1.setCell ⟨S, 1 + j * 5 + 3, none⟩ (.bool false)) w3 := by
          rw [hw3]
          refine Mod.drew (Mod.setCell (Mod.setCell (Mod.setCell (Mod.setCell (Mod.setCell (Mod.refl _ _) _ _ ?_) _ _ ?_) _ _ ?_) _ _ ?_) _ _ ?_) <;> exact fun _ => rfl
        have hC3 : Blk w3 w.heap.size 87 (spC .nilFunc ((forkC ps2 j).set j (ch p2))).toArray := by
          have h5 := (hC2.far ⟨S, 1 + j * 5 + 3, none⟩ hCS (.bool false)).put5 (p' := ch p2) HZ.out
          rw [hw3]
          exact h5.new ((Mod.refl _ _).drew)
        have hfork : forkC (ps2.set j { p2 with own := false }) (j + 1) = (forkC ps2 j).set j (ch p2) := by
          have hlen := hsp2.sp.len
          apply List.ext_getElem?
          intro k
          unfold forkC
          rw [List.getElem?_set]
          by_cases hk : k < j
          · rw [if_neg (by omega), List.getElem?_append_left (by rw [List.length_map, List.length_take, List.length_set]; omega), List.getElem?_append_left (by rw [List.length_map, List.length_take]; omega), List.getElem?_map, List.getElem?_map, List.getElem?_take, List.getElem?_take, if_pos (by omega), if_pos hk, List.getElem?_set_ne (by omega)]
          · by_cases hkj : j = k
            · subst hkj
              rw [if_pos rfl, List.getElem?_append_left (by rw [List.length_map, List.length_take, List.length_set]; omega), List.getElem?_map, List.getElem?_take, if_pos (by omega), set_get hp2, if_pos (by rw [List.length_append, List.length_map, List.length_take, List.length_replicate]; omega)]
              rfl
            · rw [if_neg hkj, List.getElem?_append_right (by rw [List.length_map, List.length_take, List.length_set]; omega), List.getElem?_append_right (by rw [List.length_map, List.length_take]; omega), List.getElem?_replicate, List.getElem?_replicate, List.length_map, List.length_map, List.length_take, List.length_take, List.length_set]
              congr 1
              simp only [eq_iff_iff]
              omega
        have hfn : forkN A (j + 1) (vps ps fr, log) = ((vps ps1 fr1).set j { needV A j (vp fr1 p) with own := false }, needL A j (vp fr1 p) (forkN A j (vps ps fr, log)).2) := by
          rw [forkN, show forkN A j (vps ps fr, log) = (vps ps1 fr1, (forkN A j (vps ps fr, log)).2) from by rw [hv1], needS_eq A ps1 fr1 _ hp, clr]
          dsimp only
          rw [List.getElem?_set, if_pos rfl, if_pos (List.getElem?_eq_some_iff.1 (vps_get (fr := fr1) hp)).1]
          dsimp only
          rw [List.set_set]
        refine ⟨ps2.set j { p2 with own := false }, fr2, ?_, ?_, ?_, fun k q hk hq => ?_, ?_⟩
        · rw [hfn]
          refine a.farMod hm3 fun i hi e => ?_
          subst e
          refine ⟨hCS, fun ⟨q, hq, hc⟩ => ?_, fun ht => ?_⟩
          · rcases mem_set hq with h1 | rfl
            · exact Blk.ne_ (hsp2.sp.frm q h1 _ hc).1 hC2 (by decide) rfl
            · exact Blk.ne_ (hsp2.sp.frm p2 (List.mem_of_getElem? hp2) _ hc).1 hC2 (by decide) rfl
          · have := A.old _ _ H.out.1.j _ ht; omega
        · rw [hfn, b, hv2, List.set_set]
          dsimp only
          congr 1
          rw [← hvp2]
          rfl
        · exact ((hst1.trans hst2.toStp0).trans c).row hm3 fun i e => by omega
        · rcases get_set hq with ⟨_, rfl⟩ | ⟨hne, hq⟩
          · rfl
          · exact hown2 k q (by omega) hq
        · rw [hfork]; exact hC3
      have HE := Lib.hid hend
      clear hend
      cases hcp : p2.copy with
      | none =>
        rw [hcp] at c4 HE
        dsimp only [ptr, Option.map, Option.isSome] at c4 HE
        have HP := Lib.hid hcp
        clear hcp
        refine wp_region_still_tail 15 (by kernel_rfl) (by kernel_rfl) ?_
        change wpStill _ _ (World.drew _) (fun a' => wpList _ _ _ _ a' (World.drew _)) _ _
        simp only [List.take_succ_cons, List.take_zero, List.drop_succ_cons, List.drop_zero]
        repeat still_step
        try refine wpStill_nil ?_
        go_wp2
        exact ⟨⟨j + 1, by go_num, by omega, HE.out _ rfl⟩, by simp [intOf]; omega⟩
      | some g =>
        rw [hcp] at c4 HE
        dsimp only [ptr, Option.map, Option.isSome] at c4 HE
        have HP := Lib.hid hcp
        clear hcp
        refine wp_region_still_tail 15 (by kernel_rfl) (by kernel_rfl) ?_
        change wpStill _ _ (World.drew _) (fun a' => wpList _ _ _ _ a' (World.drew _)) _ _
        simp only [List.take_succ_cons, List.take_zero, List.drop_succ_cons, List.drop_zero]
        repeat still_step
        try refine wpStill_nil ?_
        go_wp2
        exact ⟨⟨j + 1, by go_num, by omega, HE.out _ rfl⟩, by simp [intOf]; omega⟩
    · have hj : j = 64 := by omega
      subst hj
      go_wp2
      go_ret
      obtain ⟨ps1, fr1, hsp1, hv1, hst1, hown1, hC1⟩ := HC.out
      refine ⟨rfl, ps1, fr1, hsp1, hv1, hst1, fun q hq => ?_, ?_⟩
      · obtain ⟨k, hk⟩ := List.mem_iff_getElem?.1 hq
        exact hown1 k q (hsp1.sp.lt64 hk) hk
      · have hf : forkC ps1 64 = ps1.map ch := by
          unfold forkC
          rw [List.take_of_length_le (by rw [hsp1.sp.len]; exact Nat.le_refl _)]
          simp
        rw [hf] at hC1
        exact hC1
end Go.Proofs.Ytkdlmnhkbockhaa
