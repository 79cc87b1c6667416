/- Store. Conditions: those of each theorem. -/
import Derived.Test.YtkdlmnhkbockhaaS6
import Derived.StillTailTactics
namespace Go.Proofs.Ytkdlmnhkbockhaa
open Go.RowKit

/-- A byte is put at an address. -/
def putB (vs : List VP) (x : Nat) (b : UInt8) : List VP :=
  match vs[x / 64]? with
  | some v => vs.set (x / 64) { v with changed := true, own := true, bytes := v.bytes.set (x % 64) b }
  | none => vs
def storeB (vs : List VP) : Nat → List UInt8 → List VP
  | _, [] => vs
  | t, b :: bs => storeB (putB vs t b) (t + 1) bs
/-- What Store answers. -/
def storeP (A : Ask) (at_ : Int) (bs : List UInt8) (s : VS) : Nat × VS :=
  if (reachP A at_ bs.length s).1 = 0 then (0, (storeB (reachP A at_ bs.length s).2.1 at_.toNat bs, (reachP A at_ bs.length s).2.2))
  else reachP A at_ bs.length s

/-- A byte is stored into a copy that is the page's own. -/
theorem Spi.byteSet {A : Ask} {w : World} {S : Nat} {ps : List Pg} {fr : Nat → List UInt8} {log : List Nat} (h : Spi A w S ps fr log) {k g : Nat} {p : Pg} (hk : ps[k]? = some p) (ho : p.own = true) (hg : p.copy = some g) (r : Nat) (b : UInt8) :
    let fr' := fun i => if i = g then (fr g).set r b else fr i
    Spi A (w.setCell ⟨g, r, none⟩ (B8 b)) S ps fr' log ∧ vps ps fr' = (vps ps fr).set k { vp fr p with bytes := (vp fr p).bytes.set r b } ∧ Stp A w (w.setCell ⟨g, r, none⟩ (B8 b)) S ps ps fr fr' := by
  intro fr'
  have hm := List.mem_of_getElem? hk
  have hG := h.sp.frm p hm g hg
  have hmod : Mod (fun i => i = g) w (w.setCell ⟨g, r, none⟩ (B8 b)) := by refine Mod.setCell (Mod.refl _ _) _ _ ?_; exact fun _ => rfl
  have hown : OwnF ps g := ⟨p, hm, ho, hg⟩
  have hgS := h.sp.ne hm hg
  refine ⟨⟨⟨h.sp.blk.far _ (Ne.symm hgS) _, h.sp.len, fun q hq i hi => ?_⟩, h.excl, h.unk, A.stay _ _ _ _ h.j hmod (fun i _ e => by subst e; exact h.far.2 _ hown.ref), h.far, h.lg⟩, ?_, ⟨⟨hmod.mono fun i _ e => by subst e; exact .inr (.inl hown), fun _ h => .inl h, fun _ h => .inl h, fun i _ hn => if_neg (fun e => hn (by subst e; exact hown))⟩, keep_same, rfl⟩⟩
  · have hQ := h.sp.frm q hq i hi
    by_cases e : i = g
    · subst e
      refine ⟨?_, by simp [fr', hG.2]⟩
      have := hG.1.put r (B8 b)
      have h2 : (bts (fr i)).toArray.setIfInBounds r (B8 b) = (bts (fr' i)).toArray := by
        rw [List.setIfInBounds_toArray]
        simp [fr', bts, List.map_set]
      rwa [h2] at this
    · have h2 : fr' i = fr i := if_neg e
      rw [h2]
      exact ⟨hQ.1.far _ e _, hQ.2⟩
  · apply List.ext_getElem?
    intro j
    rw [vps, List.getElem?_map, List.getElem?_set]
    by_cases e : k = j
    · subst e
      rw [if_pos rfl, if_pos (by rw [vps, List.length_map]; exact (List.getElem?_eq_some_iff.1 hk).1), hk]
      simp [vp, hg, fr']
    · rw [if_neg e, vps, List.getElem?_map]
      cases hj : ps[j]? with
      | none => rfl
      | some q =>
        have hne := h.excl k j p q g hk hj e ho hg
        simp only [Option.map_some, vp]
        cases hq : q.copy with
        | none => rfl
        | some i => simp [fr', show i ≠ g from fun e => hne (by rw [hq, e])]

theorem Spi.new {A : Ask} {w w' : World} {S : Nat} {ps : List Pg} {fr : Nat → List UInt8} {log : List Nat} (h : Spi A w S ps fr log) (hn : New w w') : Spi A w' S ps fr log :=
  ⟨h.sp.new hn, h.excl, h.unk, A.stay _ _ _ _ h.j hn (fun _ _ h => h.elim), h.far, h.lg⟩
theorem putB_there {vs : List VP} {x k : Nat} {b : UInt8} (h : ∃ v, vs[k]? = some v ∧ v.there = true) : ∃ v, (putB vs x b)[k]? = some v ∧ v.there = true := by
  unfold putB
  cases hv : vs[x / 64]? with
  | none => exact h
  | some v =>
    obtain ⟨u, hu, hut⟩ := h
    dsimp only
    rw [List.getElem?_set]
    by_cases e : x / 64 = k
    · subst e
      rw [hv] at hu
      injection hu with hu
      subst hu
      rw [if_pos rfl, if_pos (List.getElem?_eq_some_iff.1 hv).1]
      exact ⟨_, rfl, hut⟩
    · rw [if_neg e]
      exact ⟨u, hu, hut⟩

set_option maxRecDepth 100000 in
set_option maxHeartbeats 1000000 in
theorem store_ok {A : Ask} (hA : NeedOk A) (S : Nat) (ps : List Pg) (fr : Nat → List UInt8) (log : List Nat) (at_ : Int) (bs : List UInt8) (w : World) (h : Spi A w S ps fr log) (hn : bs.length ≤ 9223372036854775807) :
    Calls Try.prog 16 #[.pointer (some ⟨S, 0, none⟩), .int .i64 at_, .string ⟨bs.toArray⟩] w fun e w' => e = .returned (.int .i64 ((storeP A at_ bs (vps ps fr, log)).1 : Nat)) ∧ After A w w' S ps fr (storeP A at_ bs (vps ps fr, log)).2 := by
  have hrk := reach_ok hA S ps fr log at_ bs.length w h (by omega) (by omega)
  rw [storeP]
  obtain ⟨er, rs, hrr⟩ : ∃ er rs, reachP A at_ bs.length (vps ps fr, log) = (er, rs) := ⟨_, _, rfl⟩
  rw [hrr] at hrk ⊢
  dsimp only at hrk ⊢
  by_cases her : er = 0
  · subst her
    rw [if_pos rfl]
    dsimp only
    have hfacts := reach_facts hrr (by omega)
    obtain ⟨m, hm⟩ : ∃ m : Nat, bs.length = m := ⟨_, rfl⟩
    rw [hm] at hrk hfacts hn
    have hsl : (⟨bs.toArray⟩ : ByteArray).size = m := hm
    obtain ⟨vf, hvf⟩ : ∃ vf, storeB rs.1 at_.toNat bs = vf := ⟨_, rfl⟩
    rw [hvf]
    have hgetb : ∀ j, j < m → (⟨bs.toArray⟩ : ByteArray)[j]? = some (bs.getD j 0) := fun j hj => by
      rw [getElem?_pos (⟨bs.toArray⟩ : ByteArray) j (by rw [hsl]; exact hj), List.getD_eq_getElem?_getD, List.getElem?_eq_getElem (by omega)]
      rfl
    have HK := Lib.hid (And.intro hrk (And.intro hfacts (And.intro hvf (And.intro hm hgetb))))
    have hm4 : (m : Int) ≤ 4096 := by rcases hfacts with h1 | ⟨t, m', h1, h2, h3, h4, _⟩ <;> omega
    clear hrk hrr h hfacts hvf hm hgetb
    go_enter Try.func16, Try.ntmps16
    go_wp2_with (go_at_call 34; with_reducible (refine HK.out.1.mono ?_); rintro e w1 ⟨rfl, haf⟩; have H1 := Lib.hid haf; clear haf)
    go_loopw [22] (fun i wr => ∃ j : Nat, i = .int .i64 (j : Int) ∧ j ≤ m ∧ Hid (∃ ps' fr', Spi A wr S ps' fr' rs.2 ∧ storeB (vps ps' fr') (at_.toNat + j) (bs.drop j) = vf ∧ (∀ i, i < m → ∃ v, (vps ps' fr')[(at_.toNat + i) / 64]? = some v ∧ v.there = true) ∧ Stp A w wr S ps ps' fr fr')) (fun i _ => m - (intOf i).toNat)
    case atStart =>
      obtain ⟨ps1, fr1, hsp1, hv1, hst1⟩ := H1.out
      refine ⟨0, rfl, by omega, ⟨ps1, fr1, hsp1, by rw [hv1]; exact HK.out.2.2.1, fun i hi => ?_, hst1⟩⟩
      rw [hv1]
      rcases HK.out.2.1 with h1 | ⟨t, m', h1, h2, h3, h4, h5⟩
      · omega
      · have := h5 i (by omega)
        rwa [h1, Int.toNat_natCast]
    case round =>
      obtain ⟨j, rfl, hj, HC⟩ := hrel
      by_cases hlt : (j : Int) < m
      · obtain ⟨t, ht, htm⟩ : ∃ t : Nat, at_ = t ∧ t + m ≤ 4096 := by
          rcases HK.out.2.1 with h1 | ⟨t, m', h1, h2, h3, h4, h5⟩
          · omega
          · exact ⟨t, h1, by omega⟩
        subst ht
        obtain ⟨ps1, fr1, hsp1, hv1, hth, hst1⟩ := HC.out
        obtain ⟨v, hv, hvt⟩ := hth j (by omega)
        rw [Int.toNat_natCast] at hv hv1 hth
        obtain ⟨q, hq⟩ : ∃ q, (t + j) / 64 = q := ⟨_, rfl⟩
        obtain ⟨r, hr⟩ : ∃ r, (t + j) % 64 = r := ⟨_, rfl⟩
        rw [hq] at hv
        obtain ⟨p, g, hp, hg, -, -, -, -, hq64⟩ := hsp1.byte hv hvt (r := r) (by omega)
        have hqI : ((t : Int) + j) / 64 = (q : Int) := by omega
        have hrI : ((t : Int) + j) % 64 = (r : Int) := by omega
        have hq64' : (q : Int) < 64 := by omega
        have hr64 : (r : Int) < 64 := by omega
        have hck := change_ok A wr S ps1 fr1 rs.2 q p g hsp1 hp hg
        have HS := Lib.hid (And.intro hck (And.intro hv1 (And.intro hth (And.intro hst1 (And.intro hv (And.intro hvt (And.intro hp (And.intro hg (And.intro hq hr)))))))))
        clear hck hv1 hth hst1 hv hvt hp hg hq hr hsp1
        go_wp2_with (go_at_call 35; with_reducible (refine HS.out.1.mono ?_); rintro e w2 ⟨rfl, ps2, fr2, g2, hsp2, hps2, hv2, hst2⟩; have H2 := Lib.hid (And.intro hsp2 (And.intro hps2 (And.intro hv2 hst2))); clear hsp2 hps2 hv2 hst2)
        have hp2 := set_get (y := { p with changed := true, own := true, copy := some g2 }) HS.out.2.2.2.2.2.2.1
        rw [← H2.out.2.1] at hp2
        have c4 := H2.out.1.sp.get (j := 4) hp2 rfl
        have hG2 := H2.out.1.sp.frm _ (List.mem_of_getElem? hp2) g2 rfl
        have hcr := hG2.1.cell r _ (bts_arr _ _ (by have := hG2.2; omega))
        have hfr := hG2.1.frozen r
        have hx := HK.out.2.2.2.2 j (by omega)
        have HP := Lib.hid hp2
        clear hp2 hG2
        dsimp only [ptr, Option.map] at c4
        have hwr : IntKind.i64.wrap ((t : Int) + (j : Int)) = (t : Int) + j := IntWalk.i64_in _ (by omega)
        have htd : ((t : Int) + (j : Int)).tmod 64 = (r : Int) := by rw [Int.tmod_eq_emod_of_nonneg (by omega)]; exact hrI
        refine wp_region_still_tail 13 (by kernel_rfl) (by kernel_rfl) ?_
        change wpStill _ _ (World.drew _) (fun a' => wpList _ _ _ _ a' (World.drew _)) _ _
        simp only [List.take_succ_cons, List.take_zero, List.drop_succ_cons, List.drop_zero]
        repeat still_step
        try refine wpStill_nil ?_
        go_wp2
        have hxe : (⟨bs.toArray⟩ : ByteArray)[j] = bs.getD j 0 := by
          have := hx
          rw [getElem?_pos (⟨bs.toArray⟩ : ByteArray) j (by rw [hsl]; omega)] at this
          exact Option.some.inj this
        rw [hxe]
        obtain ⟨-, hv1, hth, hst1, hv, hvt, hp, -, hq, hr⟩ := HS.out
        obtain ⟨hsp2, hps2, hv2, hst2⟩ := H2.out
        obtain ⟨a, b, c⟩ := hsp2.byteSet HP.out rfl rfl r (bs.getD j 0)
        have hnw : New (w2.setCell ⟨g2, r, none⟩ (B8 (bs.getD j 0))) (w2.setCell ⟨g2, r, none⟩ (B8 (bs.getD j 0))).drew := (Mod.refl _ _).drew
        have hve : v = vp fr1 p := by
          rw [vps_get hp] at hv
          exact (Option.some.inj hv).symm
        have hv2e : vp fr2 { p with changed := true, own := true, copy := some g2 } = { v with changed := true, own := true } := by
          have h1 := vps_get (fr := fr2) HP.out
          rw [hv2, List.getElem?_set, if_pos rfl, if_pos (List.getElem?_eq_some_iff.1 hv).1] at h1
          rw [hve]
          exact (Option.some.inj h1).symm
        have hput : vps ps2 (fun i => if i = g2 then (fr2 g2).set r (bs.getD j 0) else fr2 i) = putB (vps ps1 fr1) (t + j) (bs.getD j 0) := by
          rw [b, hv2, List.set_set, hv2e, putB, hq, hv, hr]
        refine ⟨⟨j + 1, by go_num, by omega, ps2, _, a.new hnw, ?_, fun i hi => ?_, (hst1.trans hst2).trans (c.trans (Stp.new hnw))⟩, by simp [intOf]; omega⟩
        · rw [hput, Int.toNat_natCast, ← hv1]
          have hd : bs.drop j = bs.getD j 0 :: bs.drop (j + 1) := by
            rw [List.drop_eq_getElem_cons (by have := HK.out.2.2.2.1; omega), List.getD_eq_getElem?_getD, List.getElem?_eq_getElem (by have := HK.out.2.2.2.1; omega), Option.getD_some]
          rw [hd, storeB, Nat.add_assoc]
        · rw [hput, Int.toNat_natCast]
          exact putB_there (hth i hi)
      · have hjm : j = m := by omega
        subst hjm
        obtain ⟨ps1, fr1, hsp1, hv1, -, hst1⟩ := HC.out
        rw [List.drop_eq_nil_of_le (by have := HK.out.2.2.2.1; omega)] at hv1
        have HS := Lib.hid (And.intro hsp1 (And.intro hv1 hst1))
        clear hsp1 hv1 hst1
        go_wp2
        go_ret
        exact ⟨rfl, ps1, fr1, HS.out.1, HS.out.2.1, HS.out.2.2⟩
  · rw [if_neg her]
    have her' : ¬ (er : Int) = 0 := by omega
    have HK := Lib.hid hrk
    clear hrk hrr h her
    go_enter Try.func16, Try.ntmps16
    go_wp2_with (go_at_call 34; with_reducible (refine HK.out.mono ?_); rintro e w1 ⟨rfl, haf⟩; have H1 := Lib.hid haf; clear haf)
    go_ret
    exact ⟨rfl, H1.out⟩
end Go.Proofs.Ytkdlmnhkbockhaa
