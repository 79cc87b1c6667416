/- Load. Conditions: those of each theorem. -/
import Derived.Test.YtkdlmnhkbockhaaS4
import Derived.Laws.MakeOwn
import Derived.Laws.IdiomStrings
import Derived.Laws.BytesArg
namespace Go.Proofs.Ytkdlmnhkbockhaa
open Go.RowKit

/-- The byte at an address. -/
def byteAt (vs : List VP) (x : Nat) : UInt8 := ((vs.getD (x / 64) ⟨false, false, false, false, [], false⟩).bytes).getD (x % 64) 0
def loadB (vs : List VP) (t n : Nat) : List UInt8 := (List.range n).map fun i => byteAt vs (t + i)
theorem loadB_length (vs : List VP) (t n : Nat) : (loadB vs t n).length = n := by simp [loadB]
/-- What Load answers. -/
def loadP (A : Ask) (at_ n : Int) (s : VS) : (List UInt8 × Nat) × VS :=
  if n < 0 then (([], 2), s)
  else if (reachP A at_ n s).1 = 0 then ((loadB (reachP A at_ n s).2.1 at_.toNat n.toNat, 0), (reachP A at_ n s).2)
  else (([], (reachP A at_ n s).1), (reachP A at_ n s).2)

theorem rch_there (A : Ask) : ∀ (f p b : Nat) (s : VS), b < p + f → (rch A f p b s).1 = true → ∀ k, k < p ∨ (∃ v, (rch A f p b s).2.1[k]? = some v ∧ v.there = true) ∨ b < k
  | 0, p, b, s, h, _, k => by omega
  | f + 1, p, b, s, h, ht, k => by
    unfold rch at ht ⊢
    by_cases hpb : p ≤ b
    · rw [if_pos hpb] at ht ⊢
      cases hv : s.1[p]? with
      | none => rw [hv] at ht; cases ht
      | some v =>
        rw [hv] at ht
        dsimp only at ht ⊢
        by_cases hth : (needV A p v).there = true
        · rw [if_pos hth] at ht ⊢
          rcases rch_there A f (p + 1) b _ (by omega) ht k with h1 | h1 | h1
          · by_cases hkp : k = p
            · subst hkp
              refine .inr (.inl ?_)
              have hkeep : ∀ (f p b : Nat) (s : VS) (k : Nat), k < p → (rch A f p b s).2.1[k]? = s.1[k]? := fun f => by
                induction f with
                | zero => intro p b s k _; rfl
                | succ f ih =>
                  intro p b s k hk
                  unfold rch
                  split
                  · cases hv : s.1[p]? with
                    | none => rfl
                    | some v =>
                      dsimp only
                      split
                      · rw [ih (p + 1) b _ k (by omega)]
                        rw [List.getElem?_set_ne (by omega)]
                      · dsimp only
                        rw [List.getElem?_set_ne (by omega)]
                  · rfl
              rw [hkeep f (k + 1) b _ k (by omega)]
              refine ⟨needV A k v, ?_, hth⟩
              dsimp only
              rw [List.getElem?_set, if_pos rfl, if_pos (List.getElem?_eq_some_iff.1 hv).1]
            · exact .inl (by omega)
          · exact .inr (.inl h1)
          · exact .inr (.inr h1)
        · rw [if_neg hth] at ht; cases ht
    · rw [if_neg hpb] at ht ⊢
      by_cases hk : k < p
      · exact .inl hk
      · exact .inr (.inr (by omega))

theorem bts_arr (xs : List UInt8) (i : Nat) (h : i < xs.length) : (bts xs).toArray[i]? = some (.int .u8 ((xs.getD i 0).toNat : Int)) := by
  rw [List.getElem?_toArray, bts, List.getElem?_map, List.getD_eq_getElem?_getD, List.getElem?_eq_getElem h]
  rfl
/-- A page that is there: where its bytes lie. -/
theorem Spi.byte {A : Ask} {w : World} {S : Nat} {ps : List Pg} {fr : Nat → List UInt8} {log : List Nat} (h : Spi A w S ps fr log) {q r : Nat} {v : VP} (hv : (vps ps fr)[q]? = some v) (ht : v.there = true) (hr : r < 64) :
    ∃ p g, ps[q]? = some p ∧ p.copy = some g ∧ w.cell? ⟨S, 1 + q * 5 + 4, none⟩ = some (.pointer (some ⟨g, 0, none⟩)) ∧ w.cell? ⟨g, r, none⟩ = some (.int .u8 ((v.bytes.getD r 0).toNat : Int)) ∧ Blk w g 92 (bts v.bytes).toArray ∧ v.bytes.length = 64 ∧ q < 64 := by
  rw [vps, List.getElem?_map] at hv
  cases hp : ps[q]? with
  | none => rw [hp] at hv; cases hv
  | some p =>
    rw [hp] at hv
    have hv' := Option.some.inj hv
    subst hv'
    obtain ⟨g, hg⟩ := Option.isSome_iff_exists.1 ht
    have hf := h.sp.frm p (List.mem_of_getElem? hp) g hg
    have hb : (vp fr p).bytes = fr g := by simp [vp, hg]
    have hc := h.sp.get (j := 4) hp rfl
    rw [hg] at hc
    rw [hb]
    exact ⟨p, g, rfl, hg, hc, hf.1.cell r _ (bts_arr _ _ (by omega)), hf.1, hf.2, h.sp.lt64 hp⟩

theorem madeB (L : Nat) : madeCells #[.int .u8 0] L = (bts (List.replicate L 0)).toArray := by
  apply Array.ext'
  rw [List.toList_toArray]
  unfold madeCells bts
  rw [Array.toList_map, Array.toList_range]
  apply List.ext_getElem?
  intro i
  rw [List.getElem?_map, List.getElem?_map, List.getElem?_replicate]
  by_cases h : i < L
  · rw [if_pos h, List.getElem?_range h]
    simp [Nat.mod_one, B8]
  · rw [if_neg h, List.getElem?_eq_none (by simpa using h)]
    rfl
/-- What is there where reach says so. -/
theorem reach_facts {A : Ask} {at_ n : Int} {s rs : VS} (hr : reachP A at_ n s = (0, rs)) (h0 : 0 ≤ n) : n = 0 ∨ ∃ t m : Nat, at_ = t ∧ n = m ∧ 0 < m ∧ t + m ≤ 4096 ∧ ∀ i, i < m → ∃ v, rs.1[(t + i) / 64]? = some v ∧ v.there = true := by
  unfold reachP at hr
  by_cases hz : n = 0
  · exact .inl hz
  · rw [if_neg hz] at hr
    by_cases hb : at_ < 0 ∨ 4096 ≤ at_ ∨ 4096 - at_ < n
    · rw [if_pos hb] at hr; cases hr
    · rw [if_neg hb] at hr
      simp only [Prod.mk.injEq] at hr
      refine .inr ⟨at_.toNat, n.toNat, by omega, by omega, by omega, by omega, fun i hi => ?_⟩
      have ht : (rch A 64 (at_ / 64).toNat ((at_ + n - 1) / 64).toNat s).1 = true := by
        cases hh : (rch A 64 (at_ / 64).toNat ((at_ + n - 1) / 64).toNat s).1 with
        | true => rfl
        | false => rw [hh] at hr; exact absurd hr.1 (by decide)
      rcases rch_there A 64 _ _ s (by omega) ht ((at_.toNat + i) / 64) with h1 | h1 | h1
      · omega
      · rw [hr.2] at h1; exact h1
      · omega
theorem info5 : (Try.prog.info? 5).map (fun i => (i.zero, i.size, i.bytes)) = some (some (.int .u8 0), 1, 1) := by kernel_rfl
theorem run_make_z (w : World) (L : Nat) (hL : L ≤ 2000000) :
    (Instr.makeSlice 23 (.int .i64 (L : Int)) (.int .i64 (L : Int))).run Try.prog w = .ok (.slice (some ⟨w.heap.size, 0, none⟩) L L) (w.alloc (.cells (bts (List.replicate L 0)).toArray 5)) := by
  obtain ⟨i, hi, hzz⟩ := Option.map_eq_some_iff.1 info5
  simp only [Prod.mk.injEq] at hzz
  obtain ⟨hz0, hz1, hz2⟩ := hzz
  have := run_make (P := Try.prog) w 23 5 i _ Try.underlying23 hi hz0 .i64 .i64 (L : Int) (L : Int) (by omega) (Int.le_refl _) (by rw [hz2]; omega) (by omega)
  rw [hz1, Int.toNat_natCast, Nat.mul_one] at this
  rw [← madeB]
  exact this

theorem fill_zero {bs : List UInt8} {j m : Nat} (hl : bs.length = m) (hj : j < m) : (bs.take j ++ List.replicate (m - j) 0).getD j 0 = 0 := by
  rw [List.getD_eq_getElem?_getD, List.getElem?_append_right (by rw [List.length_take]; omega), List.length_take, Nat.min_eq_left (by omega), Nat.sub_self, List.getElem?_replicate, if_pos (by omega)]
  rfl
theorem fill_step {bs : List UInt8} {j m : Nat} (hl : bs.length = m) (hj : j < m) : (bts (bs.take j ++ List.replicate (m - j) 0)).toArray.setIfInBounds j (.int .u8 ((bs.getD j 0).toNat : Int)) = (bts (bs.take (j + 1) ++ List.replicate (m - (j + 1)) 0)).toArray := by
  rw [List.setIfInBounds_toArray]
  congr 1
  obtain ⟨k, hk⟩ : ∃ k, m - j = k + 1 := ⟨m - j - 1, by omega⟩
  have ht : bs.take (j + 1) = bs.take j ++ [bs.getD j 0] := by
    rw [List.take_add_one, List.getD_eq_getElem?_getD, List.getElem?_eq_getElem (by omega)]
    rfl
  rw [hk, show m - (j + 1) = k from by omega, ht, List.replicate_succ, bts_append, List.append_assoc, bts_append, List.set_append_right _ _ (by rw [bts_length, List.length_take]; omega), bts_length, List.length_take, Nat.min_eq_left (by omega), Nat.sub_self]
  rfl
theorem run_str (w : World) {g n : Nat} {xs : List UInt8} (h : Blk w g 5 (bts xs).toArray) (hn : xs.length = n) : (convert 23 9 (.slice (some ⟨g, 0, none⟩) n n)).run Try.prog w = .ok (.string ⟨xs.toArray⟩) w := by
  subst hn
  refine run_convert_bytes_back (P := Try.prog) w 23 9 5 ⟨g, 0, none⟩ xs.length xs Try.underlying23 Try.underlying5 Try.underlying9 (fun j hj => ?_)
  rw [addr_add, Nat.zero_add]
  refine h.cell j _ ?_
  rw [bts_arr xs j hj, List.getD_eq_getElem?_getD, List.getElem?_eq_getElem hj]
  rfl
theorem After.new {A : Ask} {w w1 w2 : World} {S : Nat} {ps : List Pg} {fr : Nat → List UInt8} {s : VS} (h : After A w w1 S ps fr s) (hn : New w1 w2) : After A w w2 S ps fr s := by
  obtain ⟨ps', fr', h1, h2, h3⟩ := h
  exact ⟨ps', fr', ⟨h1.sp.new hn, h1.excl, h1.unk, A.stay _ _ _ _ h1.j hn (fun _ _ h => h.elim), h1.far, h1.lg⟩, h2, h3.trans (Stp.new hn)⟩

set_option maxRecDepth 100000 in
set_option maxHeartbeats 1000000 in
theorem load_ok {A : Ask} (hA : NeedOk A) (S : Nat) (ps : List Pg) (fr : Nat → List UInt8) (log : List Nat) (at_ n : Int) (w : World) (h : Spi A w S ps fr log) (hn : n ≤ 9223372036854775807) :
    Calls Try.prog 15 #[.pointer (some ⟨S, 0, none⟩), .int .i64 at_, .int .i64 n] w fun e w' => e = .returned (.tuple #[.string ⟨(loadP A at_ n (vps ps fr, log)).1.1.toArray⟩, .int .i64 ((loadP A at_ n (vps ps fr, log)).1.2 : Nat)]) ∧ After A w w' S ps fr (loadP A at_ n (vps ps fr, log)).2 := by
  by_cases hneg : n < 0
  · rw [loadP, if_pos hneg]
    have H := Lib.hid h
    clear h
    go_enter Try.func15, Try.ntmps15
    go_wp2
    go_ret2
    exact ⟨rfl, ps, fr, H.out, rfl, Stp.refl _ _ _ _ _⟩
  · rw [loadP, if_neg hneg]
    have hrk := reach_ok hA S ps fr log at_ n w h (by omega) hn
    obtain ⟨er, rs, hrr⟩ : ∃ er rs, reachP A at_ n (vps ps fr, log) = (er, rs) := ⟨_, _, rfl⟩
    rw [hrr] at hrk ⊢
    dsimp only at hrk ⊢
    by_cases her : er = 0
    · subst her
      rw [if_pos rfl]
      dsimp only
      have hfacts := reach_facts hrr (by omega)
      obtain ⟨m, hm⟩ : ∃ m : Nat, n = (m : Int) := ⟨n.toNat, by omega⟩
      subst hm
      have hm4 : (m : Int) ≤ 4096 := by rcases hfacts with h1 | ⟨t, m', h1, h2, h3, h4, _⟩ <;> omega
      obtain ⟨bs, hbs⟩ : ∃ bs, loadB rs.1 at_.toNat m = bs := ⟨_, rfl⟩
      rw [Int.toNat_natCast, hbs]
      have hbl : bs.length = m := by rw [← hbs, loadB_length]
      have hmk := fun w => run_make_z w m (by omega)
      have HK := Lib.hid (And.intro hrk (And.intro hfacts (And.intro hbs hbl)))
      clear hrk hrr h hfacts hbs hbl
      go_enter Try.func15, Try.ntmps15
      go_wp2_with (go_at_call 34; with_reducible (refine HK.out.1.mono ?_); rintro e w1 ⟨rfl, haf⟩; have H1 := Lib.hid haf; clear haf)
      go_loopw [26] (fun i wr => ∃ j : Nat, i = .int .i64 (j : Int) ∧ j ≤ m ∧ Hid (Blk wr w1.heap.size 5 (bts (bs.take j ++ List.replicate (m - j) 0)).toArray ∧ New w1 wr)) (fun i _ => m - (intOf i).toNat)
      case atStart => exact ⟨0, rfl, by omega, by rw [List.take_zero, List.nil_append, Nat.sub_zero]; exact Blk.fresh _ _ _, (Mod.refl _ _).alloc _⟩
      case round =>
        obtain ⟨j, rfl, hj, HC⟩ := hrel
        by_cases hlt : (j : Int) < m
        · obtain ⟨t, ht, htm, hth⟩ : ∃ t : Nat, at_ = t ∧ t + m ≤ 4096 ∧ ∃ v, rs.1[(t + j) / 64]? = some v ∧ v.there = true := by
            rcases HK.out.2.1 with h1 | ⟨t, m', h1, h2, h3, h4, h5⟩
            · omega
            · exact ⟨t, h1, by omega, h5 j (by omega)⟩
          subst ht
          obtain ⟨v, hv, hvt⟩ := hth
          obtain ⟨ps1, fr1, hsp1, hv1, hst1⟩ := H1.out
          rw [← hv1] at hv
          obtain ⟨q, hq⟩ : ∃ q, (t + j) / 64 = q := ⟨_, rfl⟩
          obtain ⟨r, hr⟩ : ∃ r, (t + j) % 64 = r := ⟨_, rfl⟩
          rw [hq] at hv
          obtain ⟨p, g, hp, hg, hc4, hcb, -, -, hq64⟩ := hsp1.byte hv hvt (r := r) (by omega)
          have hc4' := HC.out.2.cell hc4 (fun h => h)
          have hcb' := HC.out.2.cell hcb (fun h => h)
          have hqI : ((t : Int) + j) / 64 = (q : Int) := by omega
          have hrI : ((t : Int) + j) % 64 = (r : Int) := by omega
          have hq64' : (q : Int) < 64 := by omega
          have hr64 : (r : Int) < 64 := by omega
          have hbyte : v.bytes.getD r 0 = bs.getD j 0 := by
            rw [← HK.out.2.2.1, loadB, List.getD_eq_getElem?_getD (l := List.map _ _), List.getElem?_map, List.getElem?_range (by omega), Option.map_some, Option.getD_some, byteAt, Int.toNat_natCast, hq, hr, List.getD_eq_getElem?_getD (l := rs.1), ← hv1, hv, Option.getD_some]
          rw [hbyte] at hcb'
          have hcz := HC.out.1.cell j (.int .u8 0) (by rw [bts_arr _ _ (by rw [List.length_append, List.length_take, List.length_replicate, HK.out.2.2.2]; omega), fill_zero HK.out.2.2.2 (by omega)]; rfl)
          have hfz := HC.out.1.frozen j
          clear hc4 hcb hq64 hv hvt hq hr hp hg hsp1 hv1 hst1 hbyte
          go_wp2
          refine ⟨⟨j + 1, by go_num, by omega, ?_, HC.out.2.setCell _ _ (fun h => absurd h (Nat.lt_irrefl _))⟩, by simp [intOf]; omega⟩
          have hp := HC.out.1.put j (.int .u8 ((bs.getD j 0).toNat : Int))
          rw [fill_step HK.out.2.2.2 (by omega)] at hp
          exact hp
        · have hjm : j = m := by omega
          subst hjm
          have hB := HC.out.1
          rw [Nat.sub_self, List.replicate_zero, List.append_nil, List.take_of_length_le (by have := HK.out.2.2.2; omega)] at hB
          have hs := run_str wr hB HK.out.2.2.2
          have HB := Lib.hid (H1.out.new HC.out.2)
          clear hB
          go_wp2
          go_ret2
          exact ⟨rfl, HB.out⟩
    · rw [if_neg her]
      dsimp only
      have her' : ¬ (er : Int) = 0 := by omega
      have HK := Lib.hid hrk
      clear hrk hrr h her
      go_enter Try.func15, Try.ntmps15
      go_wp2_with (go_at_call 34; with_reducible (refine HK.out.mono ?_); rintro e w1 ⟨rfl, haf⟩; have H1 := Lib.hid haf; clear haf)
      go_ret2
      exact ⟨rfl, H1.out⟩
end Go.Proofs.Ytkdlmnhkbockhaa
