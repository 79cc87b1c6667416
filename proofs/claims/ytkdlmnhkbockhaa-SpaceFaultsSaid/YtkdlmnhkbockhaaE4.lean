/- SpaceShares: what holds in its loop. Conditions: those of each theorem. -/
import Derived.Test.YtkdlmnhkbockhaaE3
import Derived.Test.YtkdlmnhkbockhaaS9
namespace Go.Proofs.Ytkdlmnhkbockhaa
open Go.RowKit Go.Maps

theorem St.ms {A : Ask} {w0 w : World} {S : Nat} {s : VS} (h : St A w0 w S s) : ∃ x, Ms w0 w [x] ∧ x.A = A ∧ x.S = S ∧ x.st = s := by
  obtain ⟨ps, fr, h1, h2, h3⟩ := h.ex
  refine ⟨⟨A, S, ps, fr, s.2⟩, ⟨Multi.one h1, h.new, fun i x hi => ?_⟩, rfl, rfl, ?_⟩
  · cases i with
    | zero => cases hi; exact ⟨h.late.1, h3, h.late.2⟩
    | succ i => cases hi
  · rw [Spc.st_mk, h2]
theorem z0_none {x : Spc} (h : x.st = z0) : sharedN x.ps x.ps 64 = 0 := by
  rw [sharedN_count x.ps x.ps (fun _ => false) fun k hk => ?_]
  · simp
  · cases hp : x.ps[k]? with
    | none => rw [List.getD_eq_getElem?_getD, hp]; rfl
    | some p =>
      rw [List.getD_eq_getElem?_getD, hp, Option.getD_some]
      have h1 := vps_get (fr := x.fr) hp
      change x.st.1[k]? = _ at h1
      rw [h, z0, List.getElem?_replicate, if_pos hk] at h1
      have h2 := congrArg VP.there (Option.some.inj h1)
      change false = p.copy.isSome at h2
      unfold sameCopy
      rw [← h2]
      rfl
theorem fork_sh {A : Ask} (hh : A.has = true) {x : Spc} {C : Nat} (hx : x.st = forkN A 64 z0) (ho : ∀ p ∈ x.ps, p.own = false) : Sh A x ⟨noAsk, C, x.ps.map ch, x.fr, []⟩ [] := by
  have hs : Wd A x.st.1 := fun k hk => by
    refine ⟨{ needV A k zV with own := false }, ?_, needV_known A k zV, ?_, ?_⟩
    · rw [hx, forkN_get, if_pos hk, z0, List.getElem?_replicate, if_pos hk]
      rfl
    · unfold needV
      rw [if_neg (by decide), if_pos hh]
      cases A.ct k <;> rfl
    · unfold needV
      rw [if_neg (by decide), if_pos hh]
      cases A.ct k <;> rfl
  refine ⟨hs, fun k hk => ?_, fun k p q hk hp hq => ?_, fun k p q hk hp hq _ _ => ?_, List.nodup_nil, fun k hk => absurd hk List.not_mem_nil⟩
  · obtain ⟨v, hv, h1, h2, h3⟩ := hs k hk
    refine ⟨childV v, ?_, rfl, h2, h3⟩
    rw [Spc.st_mk, vps_ch, List.getElem?_map]
    change (vps x.ps x.fr)[k]? = _ at hv
    rw [hv]
    rfl
  · change (x.ps.map ch)[k]? = _ at hq
    rw [List.getElem?_map, hp] at hq
    cases hq
    rw [ho p (List.mem_of_getElem? hp)]
    simp [ch]
  · change (x.ps.map ch)[k]? = _ at hq
    rw [List.getElem?_map, hp] at hq
    cases hq
    rfl

/-- A space with a source, its child, and the pages that were stored to since. -/
def InvS (w0 : World) (am pm cm : Nat) (F : Int → Option (List UInt8)) (n S C : Nat) (T : List Nat) (w : World) : Prop :=
  ∃ xs xc, Ms w0 w [xs, xc] ∧ xs.A = getA am pm cm F n ∧ xs.S = S ∧ xc.A = noAsk ∧ xc.S = C ∧ Sh (getA am pm cm F n) xs xc T
def setF (T : List Nat) (k : Int) : Option Bool := if 0 ≤ k ∧ k.toNat ∈ T then some true else none
theorem setF_add (T : List Nat) (p : Nat) (k : Int) : (if k = (p : Int) then some true else setF T k) = setF (addT T p) k := by
  unfold setF
  by_cases e : k = p
  · subst e
    rw [if_pos rfl, if_pos ⟨by omega, by rw [Int.toNat_natCast]; exact mem_addT.2 (.inl rfl)⟩]
  · rw [if_neg e]
    by_cases h0 : 0 ≤ k
    · have : k.toNat ≠ p := by omega
      simp [h0, mem_addT, this]
    · simp [h0]
theorem addT_length (T : List Nat) (p : Nat) : (if (setF T (p : Int)).isSome then T.length else T.length + 1) = (addT T p).length := by
  unfold setF addT
  by_cases h : p ∈ T
  · simp [h]
  · simp [h]

section
variable {w0 w w' : World} {am pm cm : Nat} {F : Int → Option (List UInt8)} {n S C : Nat} {T : List Nat}
theorem InvS.new (h : InvS w0 am pm cm F n S C T w) (hn : New w w') : InvS w0 am pm cm F n S C T w' := by
  obtain ⟨xs, xc, h1, h2⟩ := h
  exact ⟨xs, xc, h1.more hn, h2⟩
theorem InvS.keepMap {V : Type} {E : El V} {x : Spc} (hx : x.ok w) (hA : x.A = getA am pm cm F n ∨ x.A = noAsk) {ps' : List Pg} {fr' : Nat → List UInt8} (hs : Stp x.A w w' x.S x.ps ps' x.fr fr')
    {tm : Nat} {f : Int → Option V} {m : Nat} (hm : MapV E w tm f m) (h1 : tm ≠ pm) (h2 : tm ≠ cm) : MapV E w' tm f m := by
  refine hm.mod hs.mod fun e => ?_
  rcases e with e | ⟨p, hp, _, hc⟩ | e
  · exact hm.ne_blk hx.sp.blk e
  · exact hm.ne_blk (hx.sp.frm p hp _ hc).1 rfl
  · have hj := hx.j
    rcases hA with hA | hA
    · rw [hA] at e hj
      rcases e with e | e | e
      · exact hm.ne_blk (show GetJ am pm cm F n w x.log from hj).blk e
      · exact h1 e
      · exact h2 e
    · rw [hA] at e
      exact e
theorem InvS.setMap {V : Type} {E : El V} (h : InvS w0 am pm cm F n S C T w) {tm : Nat} {f : Int → Option V} {m : Nat} (hm : MapV E w tm f m) (h1 : tm ≠ pm) (h2 : tm ≠ cm) (h0 : w0.heap.size ≤ tm) (hd : Mod (fun i => i = tm) w w') : InvS w0 am pm cm F n S C T w' := by
  obtain ⟨xs, xc, hms, e1, e2, e3, e4, hsh⟩ := h
  have far : ∀ x : Spc, x.ok w → (x.A = getA am pm cm F n ∨ x.A = noAsk) → ∀ i, i < w.heap.size → i = tm → i ≠ x.S ∧ ¬ RefF x.ps i ∧ ¬ x.A.T i := fun x hx hA i _ e => by
    subst e
    refine ⟨fun e => hm.ne_blk hx.sp.blk e, fun ⟨p, hp, hc⟩ => hm.ne_blk (hx.sp.frm p hp _ hc).1 rfl, fun e => ?_⟩
    have hj := hx.j
    rcases hA with hA | hA
    · rw [hA] at e hj
      rcases e with e | e | e
      · exact hm.ne_blk (show GetJ am pm cm F n w x.log from hj).blk e
      · exact h1 e
      · exact h2 e
    · rw [hA] at e
      exact e
  refine ⟨xs, xc, ⟨hms.m.farMod hd fun j x hj => ?_, hms.new.trans hd (fun i hi e => by omega), hms.late⟩, e1, e2, e3, e4, hsh⟩
  cases j with
  | zero => cases hj; exact far xs (hms.m.ok 0 xs rfl) (.inl e1)
  | succ j =>
    cases j with
    | zero => cases hj; exact far xc (hms.m.ok 1 xc rfl) (.inr e3)
    | succ j => cases hj
theorem InvS.len (h : InvS w0 am pm cm F n S C T w) (ty : TypeId) : (Builtin.len_ #[25] ty #[.map (some pm)]).run Try.prog w = .ok (.int .i64 (n : Int)) w := by
  obtain ⟨xs, xc, hms, e1, -⟩ := h
  have hj := (hms.m.ok 0 xs rfl).j
  rw [e1] at hj
  exact (show GetJ am pm cm F n w xs.log from hj).p.len ty
theorem needOk_of {x : Spc} (h : x.A = getA am pm cm F n ∨ x.A = noAsk) : NeedOk x.A := by
  rcases h with h | h <;> rw [h]
  · exact need_get am pm cm F n
  · exact noAsk_need
theorem has_getA : (getA am pm cm F n).has = true := rfl
/-- Load of a byte at a page's begin. -/
theorem InvS.load (h : InvS w0 am pm cm F n S C T w) {p X : Nat} (hp : p < 64) (hX : X = S ∨ X = C) :
    Calls Try.prog 15 #[.pointer (some ⟨X, 0, none⟩), .int .i64 ((p : Int) * 64), .int .i64 1] w fun e w' =>
      e = .returned (.tuple #[.string ⟨(if ((getA am pm cm F n).ct p).isSome then [(((getA am pm cm F n).ct p).getD []).getD 0 0] else []).toArray⟩, .int .i64 ((if ((getA am pm cm F n).ct p).isSome then 0 else 23 : Nat) : Int)]) ∧
      InvS w0 am pm cm F n S C T w' ∧ ∀ tm f m, tm ≠ pm → tm ≠ cm → MapV elB w tm f m → MapV elB w' tm f m := by
  obtain ⟨xs, xc, hms, e1, e2, e3, e4, hsh⟩ := h
  rcases hX with rfl | rfl
  · obtain ⟨v, hv, hk, ht, hb⟩ := hsh.s p hp
    have hx := hms.m.ok 0 xs rfl
    have hl := hms.call (i := 0) rfl fun hs => load_ok (needOk_of (.inl e1)) xs.S xs.ps xs.fr xs.log ((p : Int) * 64) 1 w hs (by decide)
    rw [e2, show (vps xs.ps xs.fr, xs.log) = xs.st from rfl, load_one _ hp hv hk, ht, hb] at hl
    refine hl.mono ?_
    rintro e w' ⟨he, x', hms', a1, a2, a3, a4⟩
    have hst : x'.st = xs.st := by rw [a3]; split <;> rfl
    refine ⟨?_, ⟨x', xc, hms', a1.trans e1, a2, e3, e4, ?_⟩, fun tm f m h1 h2 hm => InvS.keepMap hx (.inl e1) (by rw [e2]; exact a4) hm h1 h2⟩
    · rw [he]; split <;> rfl
    · refine ⟨by rw [hst]; exact hsh.s, hsh.c, fun k p1 q hk1 hp1 hq => ?_, fun k p1 q hk1 hp1 hq ho hc => ?_, hsh.nd, hsh.th⟩
      · obtain ⟨p0, hp0, _⟩ := hsh.s.at_ hk1
        rw [← hsh.own k p0 q hk1 hp0 hq]
        have h1 := vps_get (fr := xs.fr) hp0
        have h2 := vps_get (fr := x'.fr) hp1
        change x'.st.1[k]? = _ at h2
        change xs.st.1[k]? = _ at h1
        rw [hst, h1] at h2
        have h3 : p0.own = p1.own := congrArg VP.own (Option.some.inj h2)
        rw [h3]
      · obtain ⟨p0, hp0, _⟩ := hsh.s.at_ hk1
        have h1 := vps_get (fr := xs.fr) hp0
        have h2 := vps_get (fr := x'.fr) hp1
        change x'.st.1[k]? = _ at h2
        change xs.st.1[k]? = _ at h1
        rw [hst, h1] at h2
        have h3 : p0.own = p1.own := congrArg VP.own (Option.some.inj h2)
        have h4 : p0.copy.isSome = p1.copy.isSome := congrArg VP.there (Option.some.inj h2)
        have h5 := hsh.link k p0 q hk1 hp0 hq (h3.trans ho) hc
        cases hc1 : p1.copy with
        | none =>
          rw [hc1] at h4
          rw [← h5]
          cases hc0 : p0.copy with
          | none => rfl
          | some g => rw [hc0] at h4; cases h4
        | some g =>
          rw [← hc1, (a4.keep k p0 p1 hp0 hp1 ho (by rw [hc1]; rfl)).1]
          exact h5
  · obtain ⟨v, hv, hk, ht, hb⟩ := hsh.c p hp
    have hx := hms.m.ok 1 xc rfl
    have hl := hms.call (i := 1) rfl fun hs => load_ok (needOk_of (am := am) (pm := pm) (cm := cm) (F := F) (n := n) (.inr e3)) xc.S xc.ps xc.fr xc.log ((p : Int) * 64) 1 w hs (by decide)
    rw [e4, show (vps xc.ps xc.fr, xc.log) = xc.st from rfl, load_one _ hp hv hk, ht, hb] at hl
    refine hl.mono ?_
    rintro e w' ⟨he, x', hms', a1, a2, a3, a4⟩
    have hst : x'.st = xc.st := by rw [a3]; split <;> rfl
    refine ⟨?_, ⟨xs, x', hms', e1, e2, a1.trans e3, a2, ?_⟩, fun tm f m h1 h2 hm => InvS.keepMap (am := am) (F := F) (n := n) hx (.inr e3) (by rw [e4]; exact a4) hm h1 h2⟩
    · rw [he]; split <;> rfl
    · have hsh := hsh.symm
      refine Sh.symm ⟨by rw [hst]; exact hsh.s, hsh.c, fun k p1 q hk1 hp1 hq => ?_, fun k p1 q hk1 hp1 hq ho hc => ?_, hsh.nd, hsh.th⟩
      · obtain ⟨p0, hp0, _⟩ := hsh.s.at_ hk1
        rw [← hsh.own k p0 q hk1 hp0 hq]
        have h1 := vps_get (fr := xc.fr) hp0
        have h2 := vps_get (fr := x'.fr) hp1
        change x'.st.1[k]? = _ at h2
        change xc.st.1[k]? = _ at h1
        rw [hst, h1] at h2
        have h3 : p0.own = p1.own := congrArg VP.own (Option.some.inj h2)
        rw [h3]
      · obtain ⟨p0, hp0, _⟩ := hsh.s.at_ hk1
        have h1 := vps_get (fr := xc.fr) hp0
        have h2 := vps_get (fr := x'.fr) hp1
        change x'.st.1[k]? = _ at h2
        change xc.st.1[k]? = _ at h1
        rw [hst, h1] at h2
        have h3 : p0.own = p1.own := congrArg VP.own (Option.some.inj h2)
        have h4 : p0.copy.isSome = p1.copy.isSome := congrArg VP.there (Option.some.inj h2)
        have h5 := hsh.link k p0 q hk1 hp0 hq (h3.trans ho) hc
        cases hc1 : p1.copy with
        | none =>
          rw [hc1] at h4
          rw [← h5]
          cases hc0 : p0.copy with
          | none => rfl
          | some g => rw [hc0] at h4; cases h4
        | some g =>
          rw [← hc1, (a4.keep k p0 p1 hp0 hp1 ho (by rw [hc1]; rfl)).1]
          exact h5
/-- Store of a page's first byte. -/
theorem InvS.store (h : InvS w0 am pm cm F n S C T w) {p X : Nat} (hp : p < 64) (ht : ((getA am pm cm F n).ct p).isSome = true) (hX : X = S ∨ X = C) :
    Calls Try.prog 16 #[.pointer (some ⟨X, 0, none⟩), .int .i64 ((p : Int) * 64), .string ⟨[(((getA am pm cm F n).ct p).getD []).getD 0 0].toArray⟩] w fun e w' =>
      e = .returned (.int .i64 0) ∧ InvS w0 am pm cm F n S C (addT T p) w' ∧ ∀ tm f m, tm ≠ pm → tm ≠ cm → MapV elB w tm f m → MapV elB w' tm f m := by
  obtain ⟨xs, xc, hms, e1, e2, e3, e4, hsh⟩ := h
  rcases hX with rfl | rfl
  · obtain ⟨v, hv, hk, ht2, hb⟩ := hsh.s p hp
    have hx := hms.m.ok 0 xs rfl
    have hl := hms.call (i := 0) rfl fun hs => store_ok (needOk_of (.inl e1)) xs.S xs.ps xs.fr xs.log ((p : Int) * 64) [v.bytes.getD 0 0] w hs (by simp)
    rw [e2, show (vps xs.ps xs.fr, xs.log) = xs.st from rfl, store_one _ hp hv hk (ht2.trans ht), hb] at hl
    refine hl.mono ?_
    rintro e w' ⟨he, x', hms', a1, a2, a3, a4⟩
    exact ⟨he, ⟨x', xc, hms', a1.trans e1, a2, e3, e4, hsh.step hp ht hv (by rw [a3, hb]) a4.len a4.keep⟩, fun tm f m h1 h2 hm => InvS.keepMap hx (.inl e1) (by rw [e2]; exact a4) hm h1 h2⟩
  · obtain ⟨v, hv, hk, ht2, hb⟩ := hsh.c p hp
    have hx := hms.m.ok 1 xc rfl
    have hl := hms.call (i := 1) rfl fun hs => store_ok (needOk_of (am := am) (pm := pm) (cm := cm) (F := F) (n := n) (.inr e3)) xc.S xc.ps xc.fr xc.log ((p : Int) * 64) [v.bytes.getD 0 0] w hs (by simp)
    rw [e4, show (vps xc.ps xc.fr, xc.log) = xc.st from rfl, store_one _ hp hv hk (ht2.trans ht), hb] at hl
    refine hl.mono ?_
    rintro e w' ⟨he, x', hms', a1, a2, a3, a4⟩
    exact ⟨he, ⟨xs, x', hms', e1, e2, a1.trans e3, a2, (hsh.symm.step hp ht hv (by rw [a3, hb]) a4.len a4.keep).symm⟩, fun tm f m h1 h2 hm => InvS.keepMap (am := am) (F := F) (n := n) hx (.inr e3) (by rw [e4]; exact a4) hm h1 h2⟩
/-- Shared. -/
theorem InvS.shared (h : InvS w0 am pm cm F n S C T w) {X Y : Nat} {r : Nat} (hXY : (X = S ∧ Y = C ∨ X = C ∧ Y = S) ∧ r = shN (getA am pm cm F n) T ∨ (X = S ∧ Y = S) ∧ r = thN (getA am pm cm F n)) :
    Calls Try.prog 13 #[.pointer (some ⟨X, 0, none⟩), .pointer (some ⟨Y, 0, none⟩)] w fun e w' => e = .returned (.int .i64 (r : Int)) ∧ w' = w := by
  obtain ⟨xs, xc, hms, e1, e2, e3, e4, hsh⟩ := h
  have hs := (hms.m.ok 0 xs rfl).sp
  have hc := (hms.m.ok 1 xc rfl).sp
  have h2 := hms.m.two 0 1 xs xc rfl rfl (by decide)
  rw [e2] at hs
  rw [e4] at hc
  rcases hXY with ⟨(⟨rfl, rfl⟩ | ⟨rfl, rfl⟩), rfl⟩ | ⟨⟨rfl, rfl⟩, rfl⟩
  · rw [← hsh.shared h2]
    exact shared_ok _ _ _ _ _ _ _ _ w hs hc
  · rw [← hsh.symm.shared h2.symm]
    exact shared_ok _ _ _ _ _ _ _ _ w hc hs
  · rw [← hsh.s.self]
    exact shared_ok _ _ _ _ _ _ _ _ w hs hs
theorem InvS.equal (h : InvS w0 am pm cm F n S C T w) :
    Calls Try.prog 17 #[.pointer (some ⟨S, 0, none⟩), .pointer (some ⟨C, 0, none⟩)] w fun e w' => e = .returned (.bool true) ∧ New w0 w' := by
  obtain ⟨xs, xc, hms, e1, e2, e3, e4, hsh⟩ := h
  have he := equal_ok hms (i := 0) (j := 1) rfl rfl (by decide) (needOk_of (.inl e1)) (needOk_of (am := am) (pm := pm) (cm := cm) (F := F) (n := n) (.inr e3))
  rw [e2, e4, pagesN_id _ (hsh.s.known (hms.m.ok 0 xs rfl)), pagesN_id _ (hsh.c.known (hms.m.ok 1 xc rfl)), hsh.equal] at he
  refine he.mono ?_
  rintro e w' ⟨h1, x', y', h2, -⟩
  exact ⟨h1, h2.new⟩
end
end Go.Proofs.Ytkdlmnhkbockhaa
