/- Several spaces in one memory. Conditions: those of each theorem. -/
import Derived.Test.YtkdlmnhkbockhaaU3
namespace Go.Proofs.Ytkdlmnhkbockhaa
open Go.RowKit

/-- A space in memory, with its source. -/
structure Spc where
  A : Ask
  S : Nat
  ps : List Pg
  fr : Nat → List UInt8
  log : List Nat
def Spc.st (x : Spc) : VS := (vps x.ps x.fr, x.log)
def Spc.ok (w : World) (x : Spc) : Prop := Spi x.A w x.S x.ps x.fr x.log
/-- Neither of two spaces changes what the other has. -/
structure Two (x y : Spc) : Prop where
  ne : x.S ≠ y.S
  o1 : ∀ i, OwnF x.ps i → ¬ RefF y.ps i
  o2 : ∀ i, OwnF y.ps i → ¬ RefF x.ps i
  t1 : ∀ i, y.A.T i → i ≠ x.S ∧ ¬ RefF x.ps i ∧ ¬ x.A.T i
  t2 : ∀ i, x.A.T i → i ≠ y.S ∧ ¬ RefF y.ps i ∧ ¬ y.A.T i
theorem Two.symm {x y : Spc} (h : Two x y) : Two y x := ⟨Ne.symm h.ne, h.o2, h.o1, h.t2, h.t1⟩
theorem Spi.refLt {A : Ask} {w : World} {S : Nat} {ps : List Pg} {fr : Nat → List UInt8} {log : List Nat} (h : Spi A w S ps fr log) {i : Nat} (hi : RefF ps i) : i < w.heap.size ∧ i ≠ S := by
  obtain ⟨p, hp, hc⟩ := hi
  exact ⟨(h.sp.frm p hp i hc).1.lt, h.sp.ne hp hc⟩
theorem Spi.ref92 {A : Ask} {w : World} {S : Nat} {ps : List Pg} {fr : Nat → List UInt8} {log : List Nat} (h : Spi A w S ps fr log) {i : Nat} (hi : RefF ps i) : Blk w i 92 (bts (fr i)).toArray := by
  obtain ⟨p, hp, hc⟩ := hi
  exact (h.sp.frm p hp i hc).1
/-- A step of one space leaves the other what it is. -/
theorem Two.other {x y : Spc} {w w' : World} {ps' : List Pg} {fr' : Nat → List UInt8} (h : Two x y) (hx : x.ok w) (hy : y.ok w) (hs : Stp0 x.A w w' x.S x.ps ps' x.fr fr') : y.ok w' :=
  Spi.farMod hy hs.mod fun i hi hd => by
    rcases hd with rfl | hd | hd
    · exact ⟨h.ne, fun hr => Blk.ne_ hx.sp.blk (Spi.ref92 hy hr) (by decide) rfl, fun ht => (h.t1 _ ht).1 rfl⟩
    · exact ⟨fun e => Blk.ne_ (Spi.ref92 hx hd.ref) hy.sp.blk (by decide) e, h.o1 i hd, fun ht => (h.t1 _ ht).2.1 hd.ref⟩
    · exact h.t2 i hd
theorem Two.step {x y : Spc} {w w' : World} {ps' : List Pg} {fr' : Nat → List UInt8} {log' : List Nat} (h : Two x y) (hx : x.ok w) (hy : y.ok w) (hs : Stp0 x.A w w' x.S x.ps ps' x.fr fr') : Two ⟨x.A, x.S, ps', fr', log'⟩ y := by
  refine ⟨h.ne, fun i hi hr => ?_, fun i hi hr => ?_, fun i hi => ⟨(h.t1 i hi).1, fun hr => ?_, (h.t1 i hi).2.2⟩, h.t2⟩
  · rcases hs.own i hi with h1 | h1
    · exact h.o1 i h1 hr
    · have := (Spi.refLt hy hr).1; omega
  · rcases hs.ref i hr with h1 | h1
    · exact h.o2 i hi h1
    · have := (Spi.refLt hy hi.ref).1; omega
  · rcases hs.ref i hr with h1 | h1
    · exact (h.t1 i hi).2.1 h1
    · have := y.A.old _ _ hy.j i hi; omega

/-- Several spaces. -/
structure Multi (w : World) (l : List Spc) : Prop where
  ok : ∀ (i : Nat) x, l[i]? = some x → x.ok w
  two : ∀ (i j : Nat) x y, l[i]? = some x → l[j]? = some y → i ≠ j → Two x y
theorem get_set {α : Type} {l : List α} {i j : Nat} {x y : α} (h : (l.set i x)[j]? = some y) : (j = i ∧ y = x) ∨ (j ≠ i ∧ l[j]? = some y) := by
  rw [List.getElem?_set] at h
  split at h
  · rename_i e
    split at h
    · injection h with h
      exact .inl ⟨e.symm, h.symm⟩
    · cases h
  · rename_i e
    exact .inr ⟨Ne.symm e, h⟩
theorem Multi.step {w w' : World} {l : List Spc} {i : Nat} {x : Spc} {ps' : List Pg} {fr' : Nat → List UInt8} {log' : List Nat} (h : Multi w l) (hi : l[i]? = some x) (hx : Spi x.A w' x.S ps' fr' log') (hs : Stp0 x.A w w' x.S x.ps ps' x.fr fr') :
    Multi w' (l.set i ⟨x.A, x.S, ps', fr', log'⟩) := by
  refine ⟨fun j y hj => ?_, fun j k y z hj hk hjk => ?_⟩
  · rcases get_set hj with ⟨_, rfl⟩ | ⟨hne, hj⟩
    · exact hx
    · exact (h.two i j x y hi hj (Ne.symm hne)).other (h.ok i x hi) (h.ok j y hj) hs
  · rcases get_set hj with ⟨hj', rfl⟩ | ⟨hne, hj⟩
    · rcases get_set hk with ⟨hk', rfl⟩ | ⟨hne2, hk⟩
      · omega
      · exact (h.two i k x z hi hk (Ne.symm hne2)).step (h.ok i x hi) (h.ok k z hk) hs
    · rcases get_set hk with ⟨hk', rfl⟩ | ⟨hne2, hk⟩
      · exact ((h.two i j x y hi hj (Ne.symm hne)).step (h.ok i x hi) (h.ok j y hj) hs).symm
      · exact h.two j k y z hj hk hjk
theorem Multi.farMod {w w' : World} {l : List Spc} {D : Nat → Prop} (h : Multi w l) (hm : Mod D w w') (hD : ∀ (j : Nat) x, l[j]? = some x → ∀ i, i < w.heap.size → D i → i ≠ x.S ∧ ¬ RefF x.ps i ∧ ¬ x.A.T i) : Multi w' l :=
  ⟨fun i x hi => Spi.farMod (h.ok i x hi) hm (hD i x hi), h.two⟩
theorem Multi.new {w w' : World} {l : List Spc} (h : Multi w l) (hm : New w w') : Multi w' l := h.farMod hm fun _ _ _ _ _ h => h.elim
theorem Multi.one {w : World} {x : Spc} (h : x.ok w) : Multi w [x] := by
  refine ⟨fun i y hi => ?_, fun i j y z hi hj hij => ?_⟩
  · cases i with
    | zero => cases hi; exact h
    | succ i => cases hi
  · cases i with
    | zero =>
      cases j with
      | zero => exact absurd rfl hij
      | succ j => cases hj
    | succ i => cases hi

/-- Several spaces that were made since w0. -/
structure Ms (w0 w : World) (l : List Spc) : Prop where
  m : Multi w l
  new : New w0 w
  late : ∀ (i : Nat) x, l[i]? = some x → w0.heap.size ≤ x.S ∧ (∀ i, OwnF x.ps i → w0.heap.size ≤ i) ∧ ∀ i, x.A.T i → w0.heap.size ≤ i
theorem Ms.step {w0 w w' : World} {l : List Spc} {i : Nat} {x : Spc} {ps' : List Pg} {fr' : Nat → List UInt8} {log' : List Nat} (h : Ms w0 w l) (hi : l[i]? = some x) (hx : Spi x.A w' x.S ps' fr' log') (hs : Stp0 x.A w w' x.S x.ps ps' x.fr fr') :
    Ms w0 w' (l.set i ⟨x.A, x.S, ps', fr', log'⟩) := by
  obtain ⟨l1, l2, l3⟩ := h.late i x hi
  have hsz := h.new.size
  refine ⟨h.m.step hi hx hs, h.new.trans hs.mod (fun k hk hd => ?_), fun j y hj => ?_⟩
  · rcases hd with rfl | hd | hd
    · omega
    · have := l2 k hd; omega
    · have := l3 k hd; omega
  · rcases get_set hj with ⟨_, rfl⟩ | ⟨_, hj⟩
    · refine ⟨l1, fun k hk => ?_, l3⟩
      rcases hs.own k hk with h1 | h1
      · exact l2 k h1
      · omega
    · exact h.late j y hj
theorem Ms.more {w0 w w' : World} {l : List Spc} (h : Ms w0 w l) (hn : New w w') : Ms w0 w' l := ⟨h.m.new hn, h.new.trans hn (fun _ _ h => h), h.late⟩
/-- A call on one of several spaces. -/
theorem Ms.call {w0 w : World} {l : List Spc} {i f : Nat} {x : Spc} {args : Array Value} {r : Ending} {s' : VS} (h : Ms w0 w l) (hi : l[i]? = some x)
    (hc : Spi x.A w x.S x.ps x.fr x.log → Calls Try.prog f args w fun e w' => e = r ∧ After x.A w w' x.S x.ps x.fr s') :
    Calls Try.prog f args w fun e w' => e = r ∧ ∃ x', Ms w0 w' (l.set i x') ∧ x'.A = x.A ∧ x'.S = x.S ∧ x'.st = s' ∧ Stp x.A w w' x.S x.ps x'.ps x.fr x'.fr := by
  refine (hc (h.m.ok i x hi)).mono ?_
  rintro e w' ⟨he, ps', fr', h4, h5, h6⟩
  refine ⟨he, ⟨x.A, x.S, ps', fr', s'.2⟩, h.step hi h4 h6.toStp0, rfl, rfl, ?_, h6⟩
  show (vps ps' fr', s'.2) = s'
  rw [h5]
end Go.Proofs.Ytkdlmnhkbockhaa
