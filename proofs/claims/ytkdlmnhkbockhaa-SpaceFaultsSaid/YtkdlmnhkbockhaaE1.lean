/- Equal. Conditions: those of each theorem. -/
import Derived.Test.YtkdlmnhkbockhaaX1
import Derived.Stop.BytesEq
import Derived.Deep.QuietTactic
namespace Go.Proofs.Ytkdlmnhkbockhaa
open Go.RowKit

def zV : VP := ⟨false, false, false, false, [], false⟩
/-- Two states have the same page at k. -/
def eqAt (vs us : List VP) (k : Nat) : Bool := (vs.getD k zV).there == (us.getD k zV).there && (vs.getD k zV).bytes == (us.getD k zV).bytes
def eqV (vs us : List VP) : Bool := (List.range 64).all (eqAt vs us)
theorem eqV_false {vs us : List VP} {k : Nat} (hk : k < 64) (h : eqAt vs us k = false) : eqV vs us = false := by
  unfold eqV
  rw [List.all_eq_false]
  exact ⟨k, List.mem_range.2 hk, by rw [h]; decide⟩
theorem eqV_true {vs us : List VP} (h : ∀ k, k < 64 → eqAt vs us k = true) : eqV vs us = true := by
  unfold eqV
  rw [List.all_eq_true]
  exact fun k hk => h k (List.mem_range.1 hk)
theorem eq92 (xs ys : List UInt8) (hx : xs.length = 64) (hy : ys.length = 64) (w : World) : (Op.equalIn 10000 92 (.agg (bts xs).toArray) (.agg (bts ys).toArray)).run Try.prog w = .ok (xs == ys) w :=
  run_equalIn_bytes w 9998 92 5 64 Try.underlying92 Try.underlying5 (fun _ => by kernel_rfl) xs ys hx hy
theorem guard92 : Try.prog.eqGuardType Try.prog.depth 92 = false := by kernel_rfl
theorem neq4 (a b : Bool) (w : World) : (binOp BinOp.neq 4 (.bool a) (.bool b)).run Try.prog w = .ok (.bool (a != b)) w := by
  cases a <;> cases b <;> kernel_rfl
/-- A whole copy is loaded. -/
theorem load92 {w : World} {g : Nat} {B : List UInt8} (h : Blk w g 92 (bts B).toArray) (hB : B.length = 64) : (Instr.loadAt 92 (.pointer (some ⟨g, 0, none⟩))).run Try.prog w = .ok (.agg (bts B).toArray) w :=
  run_loadAt_mid w g 0 92 (bts B) _ (fun j v hv => by rw [Nat.zero_add]; exact h.cell j v (by simpa using hv)) Try.underlying92 rfl (by rw [bts_length, hB]; exact info92)

/-- The walk of a region that only reads, behind a structure: so that no tactic reduces it. -/
structure WQ (P : Program) (ops : Array Oper) (C : World → Prop) (Q : Act → Prop) (l : List Oper) (a : Act) : Prop where
  out : wpQuiet P ops C Q l a
section
variable {P : Program} {ops : Array Oper} {C : World → Prop} {Q : Act → Prop} {a : Act} {o : Oper} {rest : List Oper}
theorem WQ.nil (h : Q a) : WQ P ops C Q [] a := ⟨h⟩
theorem WQ.step (h : ∀ K : Act → Prop, (∀ a, WQ P ops C Q rest a → K a) → if Region.wanted o (yielded ops a.tmps) then o.quiet P a C K else K (a.put o.dst undef)) : WQ P ops C Q (o :: rest) a :=
  ⟨wpQuiet_step fun K hK => h K fun a ha => hK a ha.out⟩
/-- A load whose run is known. -/
theorem WQ.load {w : World} (ty : TypeId) (x : Operand) (p v : Value) (ho : o.op = .load ty x) (hx : a.eval x = p)
    (hl : ∀ n, (Instr.loadAt ty p).run P (w.drewN n) = .ok v (w.drewN n)) (hw : Region.wanted o (yielded ops a.tmps) = true) (h : WQ P ops (fun w' => ∃ n, w' = w.drewN n) Q rest (a.put o.dst v)) :
    WQ P ops (fun w' => ∃ n, w' = w.drewN n) Q (o :: rest) a := by
  refine ⟨?_⟩
  unfold wpQuiet
  rw [if_pos hw]
  refine ⟨v, ?_, h.out⟩
  rintro w' ⟨n, rfl⟩
  unfold Oper.quietAt execOp
  simp only [ho, hx, Sem.run_bind, Sem.run_pure, Result.andThen_ok, hl]
  exact ⟨rfl, rfl⟩
theorem wp_region_wq {id : Nat} {Q : Exit → Act → World → Prop} {w : World} {l : List Oper} (hm : P.follows .mixedOrders = true) (hB : Region.lexB .any l.toArray = true)
    (h : WQ P l.toArray (fun w' => ∃ n, w' = w.drewN n) (fun a' => ∀ w', (∃ n, w' = w.drewN n) → Q .normal a' w') l a) : (Code.region id l.toArray true).wp P Q a w :=
  wp_region_quiet_lit hm hB h.out
end

/-- A call on one of several spaces, whatever it answers. -/
theorem Ms.callE {w0 w : World} {l : List Spc} {i f : Nat} {x : Spc} {args : Array Value} {R : Ending → World → Prop} {s' : VS} (h : Ms w0 w l) (hi : l[i]? = some x)
    (hc : Spi x.A w x.S x.ps x.fr x.log → Calls Try.prog f args w fun e w' => R e w' ∧ After x.A w w' x.S x.ps x.fr s') :
    Calls Try.prog f args w fun e w' => R e w' ∧ ∃ x', Ms w0 w' (l.set i x') ∧ x'.A = x.A ∧ x'.S = x.S ∧ x'.st = s' ∧ Stp x.A w w' x.S x.ps x'.ps x.fr x'.fr := by
  refine (hc (h.m.ok i x hi)).mono ?_
  rintro e w' ⟨he, ps', fr', h4, h5, h6⟩
  refine ⟨he, ⟨x.A, x.S, ps', fr', s'.2⟩, h.step hi h4 h6.toStp0, rfl, rfl, ?_, h6⟩
  show (vps ps' fr', s'.2) = s'
  rw [h5]
theorem pages_ms {w0 w : World} {l : List Spc} {i : Nat} {x : Spc} (h : Ms w0 w l) (hi : l[i]? = some x) (hA : NeedOk x.A) :
    Calls Try.prog 32 #[.pointer (some ⟨x.S, 0, none⟩)] w fun e w' => (∃ v, e = .returned v) ∧ ∃ x', Ms w0 w' (l.set i x') ∧ x'.A = x.A ∧ x'.S = x.S ∧ x'.st = (pagesN x.A 64 x.st).2 ∧ Stp x.A w w' x.S x.ps x'.ps x.fr x'.fr :=
  h.callE (R := fun e _ => ∃ v, e = .returned v) hi fun hs => by
    refine (pages_ok hA x.S x.ps x.fr x.log w hs).mono ?_
    rintro e w' ⟨⟨Ao, c, he, _⟩, h2⟩
    exact ⟨⟨_, he⟩, h2⟩
theorem eqAt_get {vs us : List VP} {k : Nat} {v u : VP} (hv : vs[k]? = some v) (hu : us[k]? = some u) : eqAt vs us k = (v.there == u.there && v.bytes == u.bytes) := by
  unfold eqAt
  rw [List.getD_eq_getElem?_getD, List.getD_eq_getElem?_getD, hv, hu]
  rfl

set_option maxRecDepth 100000 in
set_option maxHeartbeats 1000000 in
theorem equal_ok {w0 w : World} {l : List Spc} {i j : Nat} {x y : Spc} (h : Ms w0 w l) (hi : l[i]? = some x) (hj : l[j]? = some y) (hij : i ≠ j) (hA : NeedOk x.A) (hB : NeedOk y.A) :
    Calls Try.prog 17 #[.pointer (some ⟨x.S, 0, none⟩), .pointer (some ⟨y.S, 0, none⟩)] w fun e w' =>
      e = .returned (.bool (eqV (pagesN x.A 64 x.st).2.1 (pagesN y.A 64 y.st).2.1)) ∧ ∃ x' y', Ms w0 w' ((l.set i x').set j y') ∧ x'.A = x.A ∧ x'.S = x.S ∧ x'.st = (pagesN x.A 64 x.st).2 ∧ y'.A = y.A ∧ y'.S = y.S ∧ y'.st = (pagesN y.A 64 y.st).2 := by
  have hp1 := pages_ms h hi hA
  have hp2 := fun w1 x1 (h1 : Ms w0 w1 (l.set i x1)) => pages_ms h1 (by rw [List.getElem?_set_ne hij]; exact hj) hB
  obtain ⟨S, hS⟩ : ∃ S, x.S = S := ⟨_, rfl⟩
  obtain ⟨C, hC⟩ : ∃ C, y.S = C := ⟨_, rfl⟩
  obtain ⟨r, hr⟩ : ∃ r, eqV (pagesN x.A 64 x.st).2.1 (pagesN y.A 64 y.st).2.1 = r := ⟨_, rfl⟩
  rw [hS] at hp1
  rw [hC] at hp2
  rw [hS, hC, hr]
  have hil := (List.getElem?_eq_some_iff.1 hi).1
  have hjl := (List.getElem?_eq_some_iff.1 hj).1
  have H := Lib.hid (And.intro hp1 (And.intro hp2 (And.intro hr (And.intro hil (And.intro hjl (And.intro hS (And.intro hC hij)))))))
  have hg92 := guard92
  have hn4 := neq4
  clear hp1 hp2 hr hil hjl hS hC h hi hj hij hA hB
  go_enter Try.func17, Try.ntmps17
  go_wp2_with (first
    | (go_at_call 32; with_reducible (refine H.out.1.mono ?_); rintro e w1 ⟨⟨v1, rfl⟩, x1, hx1⟩; have H1 := Lib.hid hx1; clear hx1)
    | (go_at_call 32; with_reducible (refine (H.out.2.1 w1 x1 H1.out.1).mono ?_); rintro e w2 ⟨⟨v2, rfl⟩, y1, hy1⟩; have H2 := Lib.hid hy1; clear hy1))
  have hx1l : ((l.set i x1).set j y1)[i]? = some x1 := by
    rw [List.getElem?_set_ne (Ne.symm H.out.2.2.2.2.2.2.2), List.getElem?_set, if_pos rfl, if_pos H.out.2.2.2.1]
  have hy1l : ((l.set i x1).set j y1)[j]? = some y1 := by
    rw [List.getElem?_set, if_pos rfl, List.length_set, if_pos H.out.2.2.2.2.1]
  have hsx : Sp w2 S x1.A.src x1.ps x1.fr := by
    have := (H2.out.1.m.ok i x1 hx1l).sp
    rwa [H1.out.2.2.1] at this
  have hsy : Sp w2 C y1.A.src y1.ps y1.fr := by
    have := (H2.out.1.m.ok j y1 hy1l).sp
    rwa [H2.out.2.2.1] at this
  have hrx : eqV (vps x1.ps x1.fr) (vps y1.ps y1.fr) = r := by
    have h1 := H1.out.2.2.2.1
    have h2 := H2.out.2.2.2.1
    rw [← H.out.2.2.1, ← h1, ← h2]
    rfl
  have hfin : ∀ wr, New w2 wr → ∃ x' y', Ms w0 wr ((l.set i x').set j y') ∧ x'.A = x.A ∧ x'.S = S ∧ x'.st = (pagesN x.A 64 x.st).2 ∧ y'.A = y.A ∧ y'.S = C ∧ y'.st = (pagesN y.A 64 y.st).2 := fun wr hn =>
    ⟨x1, y1, H2.out.1.more hn, H1.out.2.1, H1.out.2.2.1, H1.out.2.2.2.1, H2.out.2.1, H2.out.2.2.1, H2.out.2.2.2.1⟩
  have HX := Lib.hid (And.intro hsx (And.intro hsy (And.intro hrx hfin)))
  clear hsx hsy hrx hfin hx1l hy1l
  go_loopw [24] (fun i wr => ∃ k : Nat, i = .int .i64 (k : Int) ∧ k ≤ 64 ∧ Hid ((∀ m, m < k → eqAt (vps x1.ps x1.fr) (vps y1.ps y1.fr) m = true) ∧ New w2 wr)) (fun i _ => 64 - (intOf i).toNat)
  case atStart => exact ⟨0, rfl, by omega, fun m hm => by omega, Mod.refl _ _⟩
  case round =>
    obtain ⟨k, rfl, hk, HC⟩ := hrel
    by_cases hlt : (k : Int) < 64
    · obtain ⟨hsx, hsy, hrx, hfin⟩ := HX.out
      obtain ⟨p, hp⟩ : ∃ p, x1.ps[k]? = some p := ⟨_, List.getElem?_eq_getElem (by rw [hsx.len]; omega)⟩
      obtain ⟨q, hq⟩ : ∃ q, y1.ps[k]? = some q := ⟨_, List.getElem?_eq_getElem (by rw [hsy.len]; omega)⟩
      have c1 := HC.out.2.cell (hsx.get (j := 4) hp rfl) (fun h => h)
      have c2 := HC.out.2.cell (hsy.get (j := 4) hq rfl) (fun h => h)
      have hat := eqAt_get (vps_get (fr := x1.fr) hp) (vps_get (fr := y1.fr) hq)
      have hfp : ∀ g, p.copy = some g → Blk wr g 92 (bts (x1.fr g)).toArray ∧ (x1.fr g).length = 64 := fun g hg => ⟨(hsx.frm p (List.mem_of_getElem? hp) g hg).1.new HC.out.2, (hsx.frm p (List.mem_of_getElem? hp) g hg).2⟩
      have hfq : ∀ g, q.copy = some g → Blk wr g 92 (bts (y1.fr g)).toArray ∧ (y1.fr g).length = 64 := fun g hg => ⟨(hsy.frm q (List.mem_of_getElem? hq) g hg).1.new HC.out.2, (hsy.frm q (List.mem_of_getElem? hq) g hg).2⟩
      have hgo : eqAt (vps x1.ps x1.fr) (vps y1.ps y1.fr) k = true → ∀ m, m < k + 1 → eqAt (vps x1.ps x1.fr) (vps y1.ps y1.fr) m = true := fun h m hm => by
        by_cases e : m = k
        · subst e; exact h
        · exact HC.out.1 m (by omega)
      have hno : eqAt (vps x1.ps x1.fr) (vps y1.ps y1.fr) k = false → r = false := fun h => by rw [← hrx]; exact eqV_false (by omega) h
      have HY := Lib.hid (And.intro hgo (And.intro hno hfin))
      clear hgo hno hsx hsy hrx hfin
      cases hpc : p.copy with
      | none =>
        rw [hpc] at c1
        cases hqc : q.copy with
        | none =>
          rw [hqc] at c2
          have he : eqAt (vps x1.ps x1.fr) (vps y1.ps y1.fr) k = true := by rw [hat]; simp [vp, hpc, hqc]
          have HE := Lib.hid he
          clear hp hq hat hfp hfq he hpc hqc
          dsimp only [ptr, Option.map] at c1 c2
          go_upto_region 8 with fail
          go_quiet (fail)
          go_upto_region 9 with fail
          refine wp_region_wq (by kernel_rfl) (by kernel_rfl) ?_
          repeat (refine WQ.step (fun K hK => ?_); go_simp; refine hK _ ?_; clear hK K)
          refine WQ.nil ?_
          intro _ hw'
          obtain ⟨nq2, hw''⟩ := hw'
          subst hw''
          go_wp2
          exact ⟨⟨k + 1, by go_num, by omega, HY.out.1 HE.out, HC.out.2.drewN _⟩, by simp [intOf]; omega⟩
        | some g2 =>
          rw [hqc] at c2
          have he : eqAt (vps x1.ps x1.fr) (vps y1.ps y1.fr) k = false := by rw [hat]; simp [vp, hpc, hqc]
          have HE := Lib.hid he
          clear hp hq hat hfp hfq he hpc hqc
          dsimp only [ptr, Option.map] at c1 c2
          go_upto_region 8 with fail
          go_quiet (fail)
          go_upto_region 9 with fail
          refine wp_region_wq (by kernel_rfl) (by kernel_rfl) ?_
          repeat (refine WQ.step (fun K hK => ?_); go_simp; refine hK _ ?_; clear hK K)
          refine WQ.nil ?_
          intro _ hw'
          obtain ⟨nq2, hw''⟩ := hw'
          subst hw''
          go_wp2
          go_ret
          exact ⟨by rw [HY.out.2.1 HE.out]; rfl, HY.out.2.2 _ ((HC.out.2.drewN _).drewN _)⟩
      | some g =>
        rw [hpc] at c1
        cases hqc : q.copy with
        | none =>
          rw [hqc] at c2
          have he : eqAt (vps x1.ps x1.fr) (vps y1.ps y1.fr) k = false := by rw [hat]; simp [vp, hpc, hqc]
          have HE := Lib.hid he
          clear hp hq hat hfp hfq he hpc hqc
          dsimp only [ptr, Option.map] at c1 c2
          go_upto_region 8 with fail
          go_quiet (fail)
          go_upto_region 9 with fail
          refine wp_region_wq (by kernel_rfl) (by kernel_rfl) ?_
          repeat (refine WQ.step (fun K hK => ?_); go_simp; refine hK _ ?_; clear hK K)
          refine WQ.nil ?_
          intro _ hw'
          obtain ⟨nq2, hw''⟩ := hw'
          subst hw''
          go_wp2
          go_ret
          exact ⟨by rw [HY.out.2.1 HE.out]; rfl, HY.out.2.2 _ ((HC.out.2.drewN _).drewN _)⟩
        | some g2 =>
          rw [hqc] at c2
          obtain ⟨hb1, hl1⟩ := hfp g hpc
          obtain ⟨hb2, hl2⟩ := hfq g2 hqc
          obtain ⟨b, hbb⟩ : ∃ b, (x1.fr g == y1.fr g2) = b := ⟨_, rfl⟩
          have he : eqAt (vps x1.ps x1.fr) (vps y1.ps y1.fr) k = b := by rw [hat, ← hbb]; simp [vp, hpc, hqc]
          have hq1 := fun n => load92 (hb1.new ((Mod.refl (fun _ => False) wr).drewN n)) hl1
          have hq2 := fun n => load92 (hb2.new ((Mod.refl (fun _ => False) wr).drewN n)) hl2
          have heq := eq92 _ _ hl1 hl2
          rw [hbb] at heq
          obtain ⟨B1, hB1⟩ : ∃ B1, (bts (x1.fr g)).toArray = B1 := ⟨_, rfl⟩
          obtain ⟨B2, hB2⟩ : ∃ B2, (bts (y1.fr g2)).toArray = B2 := ⟨_, rfl⟩
          rw [hB1] at hq1 heq
          rw [hB2] at hq2 heq
          have HE := Lib.hid he
          clear hp hq hat hfp hfq he hpc hqc hb1 hb2 hl1 hl2 hB1 hB2 hbb
          dsimp only [ptr, Option.map] at c1 c2
          go_upto_region 8 with fail
          go_quiet (fail)
          go_upto_region 9 with fail
          refine wp_region_wq (by kernel_rfl) (by kernel_rfl) ?_
          repeat (refine WQ.step (fun K hK => ?_); go_simp; refine hK _ ?_; clear hK K)
          refine WQ.load 92 _ _ _ rfl rfl (fun n => by first | exact hq1 (nq + n) | (rw [World.drewN_drewN]; exact hq1 _)) (by go_simp) ?_
          repeat (refine WQ.step (fun K hK => ?_); go_simp; refine hK _ ?_; clear hK K)
          refine WQ.load 92 _ _ _ rfl rfl (fun n => by rw [World.drewN_drewN]; exact hq2 _) (by go_simp) ?_
          repeat (refine WQ.step (fun K hK => ?_); go_simp; refine hK _ ?_; clear hK K)
          refine WQ.nil ?_
          intro _ hw'
          obtain ⟨nq2, hw''⟩ := hw'
          subst hw''
          cases b with
          | true =>
            go_wp2
            exact ⟨⟨k + 1, by go_num, by omega, HY.out.1 HE.out, HC.out.2.drewN _⟩, by simp [intOf]; omega⟩
          | false =>
            go_wp2
            go_ret
            exact ⟨by rw [HY.out.2.1 HE.out]; rfl, HY.out.2.2 _ ((HC.out.2.drewN _).drewN _)⟩
    · have hk : k = 64 := by omega
      subst hk
      go_wp2
      go_ret
      refine ⟨?_, HX.out.2.2.2 _ HC.out.2⟩
      rw [← HX.out.2.2.1, eqV_true HC.out.1]
      rfl
end Go.Proofs.Ytkdlmnhkbockhaa
