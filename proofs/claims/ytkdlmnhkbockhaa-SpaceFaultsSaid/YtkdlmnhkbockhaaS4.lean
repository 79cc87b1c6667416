/- reach. Conditions: those of each theorem. -/
import Derived.Test.YtkdlmnhkbockhaaS3
namespace Go.Proofs.Ytkdlmnhkbockhaa
open Go.RowKit

abbrev VS := List VP × List Nat
/-- The pages p to b are needed, up to the first that is not there. -/
def rch (A : Ask) : Nat → Nat → Nat → VS → Bool × VS
  | 0, _, _, s => (true, s)
  | f + 1, p, b, s =>
    if p ≤ b then
      match s.1[p]? with
      | none => (false, s)
      | some v => if (needV A p v).there then rch A f (p + 1) b (s.1.set p (needV A p v), needL A p v s.2) else (false, (s.1.set p (needV A p v), needL A p v s.2))
    else (true, s)
def reachP (A : Ask) (at_ n : Int) (s : VS) : Nat × VS :=
  if n = 0 then (0, s)
  else if at_ < 0 ∨ 4096 ≤ at_ ∨ 4096 - at_ < n then (23, s)
  else (if (rch A 64 (at_ / 64).toNat ((at_ + n - 1) / 64).toNat s).1 then 0 else 23, (rch A 64 (at_ / 64).toNat ((at_ + n - 1) / 64).toNat s).2)
/-- A space after a call: its state in words is s'. -/
def After (A : Ask) (w w' : World) (S : Nat) (ps : List Pg) (fr : Nat → List UInt8) (s' : VS) : Prop := ∃ ps' fr', Spi A w' S ps' fr' s'.2 ∧ vps ps' fr' = s'.1 ∧ Stp A w w' S ps ps' fr fr'
theorem rch_end (A : Ask) (f p b : Nat) (s : VS) (h : b < p) : rch A f p b s = (true, s) := by
  cases f with
  | zero => rfl
  | succ f => rw [rch, if_neg (by omega)]

theorem i82 (w : World) (g : Option Nat) : (binOp BinOp.eql 82 (ptr g) (.pointer none)).run Try.prog w = .ok (.bool g.isNone) w := by
  cases g <;> kernel_rfl

theorem after_need {A : Ask} {w1 : World} {S : Nat} {ps' ps2 : List Pg} {fr' fr2 : Nat → List UInt8} {log2 : List Nat} {j : Nat} {p : Pg} {v : VP} (h : Spi A w1 S ps2 fr2 log2) (hv : vps ps2 fr2 = (vps ps' fr').set j v) (hp : ps'[j]? = some p) :
    ∃ p2, ps2[j]? = some p2 ∧ vp fr2 p2 = v := by
  have hj := (List.getElem?_eq_some_iff.1 hp).1
  have h1 : (vps ps2 fr2)[j]? = some v := by rw [hv, List.getElem?_set, if_pos rfl, if_pos (by rw [vps, List.length_map]; exact hj)]
  rw [vps, List.getElem?_map] at h1
  cases h2 : ps2[j]? with
  | none => rw [h2] at h1; cases h1
  | some p2 => rw [h2] at h1; exact ⟨p2, rfl, Option.some.inj h1⟩
theorem after_there {A : Ask} {w1 : World} {S : Nat} {ps' ps2 : List Pg} {fr' fr2 : Nat → List UInt8} {log2 : List Nat} {j : Nat} {p : Pg} {v : VP} (h : Spi A w1 S ps2 fr2 log2) (hv : vps ps2 fr2 = (vps ps' fr').set j v) (hp : ps'[j]? = some p) (ht : v.there = true) :
    ∃ p2, ps2[j]? = some p2 ∧ ∃ g, p2.copy = some g ∧ w1.cell? ⟨S, 1 + j * 5 + 4, none⟩ = some (.pointer (some ⟨g, 0, none⟩)) := by
  obtain ⟨p2, h2, h3⟩ := after_need h hv hp
  rw [← h3] at ht
  obtain ⟨g, hg⟩ := Option.isSome_iff_exists.1 ht
  refine ⟨p2, h2, g, hg, ?_⟩
  have := h.sp.get (j := 4) h2 rfl
  rw [hg] at this
  exact this
theorem after_not {A : Ask} {w1 : World} {S : Nat} {ps' ps2 : List Pg} {fr' fr2 : Nat → List UInt8} {log2 : List Nat} {j : Nat} {p : Pg} {v : VP} (h : Spi A w1 S ps2 fr2 log2) (hv : vps ps2 fr2 = (vps ps' fr').set j v) (hp : ps'[j]? = some p) (ht : v.there = false) :
    ∃ p2, ps2[j]? = some p2 ∧ w1.cell? ⟨S, 1 + j * 5 + 4, none⟩ = some (.pointer none) := by
  obtain ⟨p2, h2, h3⟩ := after_need h hv hp
  rw [← h3] at ht
  have hg : p2.copy = none := by
    cases hc : p2.copy with
    | none => rfl
    | some g => simp [vp, hc] at ht
  refine ⟨p2, h2, ?_⟩
  have := h.sp.get (j := 4) h2 rfl
  rw [hg] at this
  exact this

set_option maxRecDepth 100000 in
set_option maxHeartbeats 1000000 in
theorem reach_ok {A : Ask} (hA : NeedOk A) (S : Nat) (ps : List Pg) (fr : Nat → List UInt8) (log : List Nat) (at_ n : Int) (w : World) (h : Spi A w S ps fr log) (hn0 : 0 ≤ n) (hn : n ≤ 9223372036854775807) :
    Calls Try.prog 34 #[.pointer (some ⟨S, 0, none⟩), .int .i64 at_, .int .i64 n] w fun e w' => e = .returned (.int .i64 ((reachP A at_ n (vps ps fr, log)).1 : Nat)) ∧ After A w w' S ps fr (reachP A at_ n (vps ps fr, log)).2 := by
  by_cases hz : n = 0
  · subst hz
    rw [reachP, if_pos rfl]
    have H := Lib.hid h
    clear h
    go_enter Try.func34, Try.ntmps34
    go_wp2
    go_ret
    exact ⟨rfl, ps, fr, H.out, rfl, Stp.refl _ _ _ _ _⟩
  · by_cases hbad : at_ < 0 ∨ 4096 ≤ at_ ∨ 4096 - at_ < n
    · rw [reachP, if_neg hz, if_pos hbad]
      have H := Lib.hid h
      clear h
      have hb : at_ < 0 ∨ (¬ at_ < 0 ∧ 4096 ≤ at_) ∨ (¬ at_ < 0 ∧ ¬ 4096 ≤ at_ ∧ 4096 - at_ < n) := by omega
      clear hbad
      rcases hb with h1 | ⟨h1, h2⟩ | ⟨h1, h2, h3⟩
      · go_enter Try.func34, Try.ntmps34
        go_wp2
        go_ret
        exact ⟨rfl, ps, fr, H.out, rfl, Stp.refl _ _ _ _ _⟩
      · go_enter Try.func34, Try.ntmps34
        go_wp2
        go_ret
        exact ⟨rfl, ps, fr, H.out, rfl, Stp.refl _ _ _ _ _⟩
      · go_enter Try.func34, Try.ntmps34
        go_wp2
        go_ret
        exact ⟨rfl, ps, fr, H.out, rfl, Stp.refl _ _ _ _ _⟩
    · rw [reachP, if_neg hz, if_neg hbad]
      obtain ⟨a, ha⟩ : ∃ a : Nat, at_ / 64 = (a : Int) := ⟨(at_ / 64).toNat, by omega⟩
      obtain ⟨b, hb⟩ : ∃ b : Nat, (at_ + n - 1) / 64 = (b : Int) := ⟨((at_ + n - 1) / 64).toNat, by omega⟩
      have hab : a ≤ b := by omega
      have hb63 : b ≤ 63 := by omega
      rw [ha, hb, Int.toNat_natCast, Int.toNat_natCast]
      have h1 : ¬ at_ < 0 := by omega
      have h2 : ¬ 4096 ≤ at_ := by omega
      have h3 : ¬ 4096 - at_ < n := by omega
      have hb' : (at_ + (n - 1)) / 64 = (b : Int) := by rw [← hb]; congr 1; omega
      obtain ⟨rb, rs, hrr⟩ : ∃ rb rs, rch A 64 a b (vps ps fr, log) = (rb, rs) := ⟨_, _, rfl⟩
      rw [hrr]
      dsimp only
      obtain ⟨er, her⟩ : ∃ er : Nat, (if rb = true then 0 else 23) = er := ⟨_, rfl⟩
      rw [her]
      have H := Lib.hid (And.intro h (And.intro hab (And.intro hrr her)))
      clear h hbad hab hrr her
      go_enter Try.func34, Try.ntmps34
      go_wp2
      go_loopw [7] (fun i wr => ∃ j : Nat, i = .int .i64 (j : Int) ∧ a ≤ j ∧ j ≤ b + 1 ∧ Hid (∃ ps' fr' log', Spi A wr S ps' fr' log' ∧ rch A (64 - (j - a)) j b (vps ps' fr', log') = (rb, rs) ∧ Stp A w wr S ps ps' fr fr')) (fun i _ => 64 - (intOf i).toNat)
      case atStart => exact ⟨a, rfl, Nat.le_refl _, by have := H.out.2.1; omega, ps, fr, log, H.out.1, by rw [Nat.sub_self]; exact H.out.2.2.1, Stp.refl _ _ _ _ _⟩
      case round =>
        obtain ⟨j, rfl, hja, hjb, HC⟩ := hrel
        by_cases hle : (j : Int) ≤ b
        · obtain ⟨ps', fr', log', hsp, hr, hst⟩ := HC.out
          obtain ⟨p, hp⟩ := hsp.get (k := j) (by omega)
          have hpk := hA wr S ps' fr' log' j p hsp hp
          obtain ⟨f, hf⟩ : ∃ f, 64 - (j - a) = f + 1 := ⟨63 - (j - a), by omega⟩
          rw [hf, rch, if_pos (by omega)] at hr
          dsimp only at hr
          rw [vps_get hp] at hr
          dsimp only at hr
          have hjI : (j : Int) < 64 := by omega
          cases hth : (needV A j (vp fr' p)).there with
          | true =>
            rw [hth, if_pos rfl] at hr
            have HS := Lib.hid (And.intro hr (And.intro hst (And.intro hth (And.intro hf hp))))
            clear hr hst hsp hth hf hp
            go_wp2_with (go_at_call 33; with_reducible (refine hpk.mono ?_); rintro e w1 ⟨rfl, ps2, fr2, hsp2, hv2, hst2⟩; obtain ⟨p2, hp2, g, hg, hcell⟩ := after_there hsp2 hv2 HS.out.2.2.2.2 HS.out.2.2.1; have H2 := Lib.hid (And.intro hsp2 (And.intro hv2 hst2)); clear hsp2 hv2 hst2)
            refine ⟨⟨j + 1, by go_num, by omega, by omega, ps2, fr2, _, H2.out.1, ?_, HS.out.2.1.trans H2.out.2.2⟩, by simp [intOf]; omega⟩
            rw [← HS.out.1, H2.out.2.1, show 64 - (j + 1 - a) = f from by have := HS.out.2.2.2.1; omega]
          | false =>
            rw [hth, if_neg (by decide)] at hr
            have HS := Lib.hid (And.intro hr (And.intro hst (And.intro hth (And.intro hf hp))))
            clear hr hst hsp hth hf hp
            go_wp2_with (go_at_call 33; with_reducible (refine hpk.mono ?_); rintro e w1 ⟨rfl, ps2, fr2, hsp2, hv2, hst2⟩; obtain ⟨p2, hp2, hcell⟩ := after_not hsp2 hv2 HS.out.2.2.2.2 HS.out.2.2.1; have H2 := Lib.hid (And.intro hsp2 (And.intro hv2 hst2)); clear hsp2 hv2 hst2)
            have h9 := HS.out.1
            simp only [Prod.mk.injEq] at h9
            have h8 := H.out.2.2.2
            rw [← h9.1, if_neg (by decide)] at h8
            go_ret
            rw [← h8, ← h9.2]
            exact ⟨rfl, ps2, fr2, H2.out.1, H2.out.2.1, HS.out.2.1.trans H2.out.2.2⟩
        · obtain ⟨ps', fr', log', hsp, hr, hst⟩ := HC.out
          rw [rch_end A _ j b _ (by omega)] at hr
          simp only [Prod.mk.injEq] at hr
          have h8 := H.out.2.2.2
          rw [← hr.1, if_pos rfl] at h8
          have HS := Lib.hid (And.intro hsp (And.intro hr.2 (And.intro hst h8)))
          clear hsp hr hst h8
          go_wp2
          go_ret
          rw [← HS.out.2.2.2, ← HS.out.2.1]
          exact ⟨rfl, ps', fr', HS.out.1, rfl, HS.out.2.2.1⟩
end Go.Proofs.Ytkdlmnhkbockhaa
