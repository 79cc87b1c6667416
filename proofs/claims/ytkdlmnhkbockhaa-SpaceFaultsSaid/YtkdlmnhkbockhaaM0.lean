/- Maps with keys of type int: what a block that is a map holds; look-up, store, delete, len. Conditions: those of each theorem. -/
import Derived.Test.YtkdlmnhkbockhaaS3
import Derived.Maps.OwnSet
import Derived.Maps.StringElems
import Derived.Carry
namespace Go.Proofs.Ytkdlmnhkbockhaa
open Go.RowKit Go.Maps

/-- The elements of a map: the map's type, the element's; how an element lies and reads. -/
structure El (V : Type) where
  t : TypeId
  e : TypeId
  ht : Try.prog.underlying t = some (.map 3 e)
  val : V → Value
  lit : V → Lit
  ok : V → Prop
  rd : ∀ v, ok v → plainElem (H := Unit) Try.prog e (val v) = some (.lit (lit v), [])
  inv : ∀ v z, plainElem (H := Unit) Try.prog e v = some z → ∃ a, v = val a ∧ z.1 = .lit (lit a)
  inj : ∀ a b, lit a = lit b → a = b
  zero : V
  zok : ok zero
  hz : ∀ w, (zeroValue e).run Try.prog w = .ok (val zero) w
def elS : El (List UInt8) where
  t := 25
  e := 9
  ht := Try.underlying25
  val s := .string ⟨s.toArray⟩
  lit s := .string s
  ok s := s.length ≤ maxLen
  rd s h := plainElem_string Try.underlying9 (s := ⟨s.toArray⟩) h
  inv v z h := by
    obtain ⟨s, rfl, rfl, _⟩ := plainElem_string_inv Try.underlying9 h
    exact ⟨s.data.toList, rfl, rfl⟩
  inj a b h := by injection h
  zero := []
  zok := Nat.zero_le _
  hz _ := by kernel_rfl
def elI : El Int where
  t := 28
  e := 3
  ht := Try.underlying28
  val c := .int .i64 c
  lit c := .int .i64 c
  ok c := (Lit.int .i64 c).wf = true
  rd c h := plainElem_int Try.underlying3 h
  inv v z h := by
    obtain ⟨a, rfl, rfl, _⟩ := plainElem_int_inv Try.underlying3 h
    exact ⟨a, rfl, rfl⟩
  inj a b h := by injection h
  zero := 0
  zok := by decide
  hz _ := by kernel_rfl

/-- Block b is a map with n entries: at k it has f k. -/
def MapV {V : Type} (E : El V) (w : World) (b : Nat) (f : Int → Option V) (n : Nat) : Prop :=
  ∃ D : DataW Unit, w.ownsMap Try.prog 3 (plainElem Try.prog E.e) b n D ∧ Maps.size D = n ∧ ∀ k zd, D.atKey (.int .i64 k) zd = (match f k with | some v => .lit (E.lit v) | none => zd)
theorem K3 : Keyed Try.prog 3 := int_keyed Try.underlying3
theorem key3 {k : Int} (hk : (Lit.int .i64 k).wf = true) : keyOf Try.prog 3 (.int .i64 k) = some (.int .i64 k) := keyOf_int_mk Try.underlying3 hk
theorem isKey3 (k : Int) : WideAt.IsKeyLit (.int .i64 k) := by simp [WideAt.IsKeyLit]

section
variable {V : Type} {E : El V} {w w' : World} {b n : Nat} {f : Int → Option V}
theorem MapV.lt (h : MapV E w b f n) : b < w.heap.size := by obtain ⟨D, h1, _⟩ := h; exact h1.lt
theorem MapV.made (E : El V) (w : World) : MapV E (w.alloc (.map #[] 0)) w.heap.size (fun _ => none) 0 :=
  ⟨.map [], World.ownsMap_made _ _ _ _, rfl, fun _ _ => rfl⟩
theorem MapV.mod {S : Nat → Prop} (h : MapV E w b f n) (hm : Mod S w w') (hb : ¬ S b) : MapV E w' b f n := by
  obtain ⟨D, ⟨es, clock, h1, h2⟩, h3⟩ := h
  have hlt : b < w.heap.size := (Array.getElem?_eq_some_iff.1 h1).1
  exact ⟨D, ⟨es, clock, (hm.block b hlt hb).trans h1, h2⟩, h3⟩
theorem MapV.ne_blk (h : MapV E w b f n) {g : Nat} {t : TypeId} {cs : Array Value} (hg : Blk w g t cs) : b ≠ g := by
  rintro rfl
  obtain ⟨D, ⟨es, clock, h1, _⟩, _⟩ := h
  unfold Blk at hg
  rw [h1] at hg
  cases hg
theorem MapV.has (h : MapV E w b f n) : ∃ D : DataW Unit, w.ownsMap Try.prog 3 (plainElem Try.prog E.e) b n D ∧ Maps.size D = n ∧ (∀ k zd, D.atKey (.int .i64 k) zd = (match f k with | some v => .lit (E.lit v) | none => zd)) ∧ ∀ k, Maps.has D (.int .i64 k) = (f k).isSome := by
  obtain ⟨D, h1, h2, h3⟩ := h
  refine ⟨D, h1, h2, h3, fun k => ?_⟩
  cases hf : f k with
  | none => exact has_false_of_atKey fun z => by rw [h3, hf]
  | some v => exact has_true_of_atKey (y := .lit (E.lit v)) fun z => by rw [h3, hf]
theorem MapV.elt {o : Option V} {a : V} {d : DataW Unit} (h3 : d = (match o with | some v => .lit (E.lit v) | none => .lit (E.lit E.zero))) (ha : d = .lit (E.lit a)) : a = o.getD E.zero := by
  rw [h3] at ha
  cases o with
  | none =>
    injection ha with ha
    exact (E.inj _ _ ha).symm
  | some u =>
    injection ha with ha
    exact (E.inj _ _ ha).symm
theorem MapV.look_ok (h : MapV E w b f n) {k : Int} (hk : (Lit.int .i64 k).wf = true) :
    (Instr.lookup E.t (.map (some b)) (.int .i64 k) true).run Try.prog w = .ok (.tuple #[E.val ((f k).getD E.zero), .bool (f k).isSome]) w := by
  obtain ⟨D, h1, h2, h3, h4⟩ := h.has
  obtain ⟨v, ps, hr, hv⟩ := h1.look_ok K3 E.ht (E.hz w) (E.rd _ E.zok) (key3 hk)
  rw [hr, h4]
  obtain ⟨a, rfl, ha⟩ := E.inv _ _ hv
  rw [show a = (f k).getD E.zero from MapV.elt (h3 k _) ha]
theorem MapV.look (h : MapV E w b f n) {k : Int} (hk : (Lit.int .i64 k).wf = true) :
    (Instr.lookup E.t (.map (some b)) (.int .i64 k) false).run Try.prog w = .ok (E.val ((f k).getD E.zero)) w := by
  obtain ⟨D, h1, h2, h3, h4⟩ := h.has
  obtain ⟨v, ps, hr, hv⟩ := h1.lookup K3 E.ht (E.hz w) (E.rd _ E.zok) (key3 hk)
  rw [hr]
  obtain ⟨a, rfl, ha⟩ := E.inv _ _ hv
  rw [show a = (f k).getD E.zero from MapV.elt (h3 k _) ha]
theorem MapV.store (h : MapV E w b f n) {k : Int} (hk : (Lit.int .i64 k).wf = true) {v : V} (hv : E.ok v) (hn : n < maxLen) :
    ∃ w', (Instr.mapUpdate E.t (.map (some b)) (.int .i64 k) (E.val v)).run Try.prog w = .ok () w' ∧ MapV E w' b (fun j => if j = k then some v else f j) (if (f k).isSome then n else n + 1) ∧ Mod (fun i => i = b) w w' ∧ w'.heap.size = w.heap.size := by
  obtain ⟨D, h1, h2, h3, h4⟩ := h.has
  obtain ⟨w', hr, h5, h6⟩ := h1.store K3 E.ht hn (key3 hk) (E.rd v hv)
  have hsz : Maps.size (D.put (.int .i64 k) (.lit (E.lit v))) = if (f k).isSome then n else n + 1 := by
    rw [size_put (h1.tidy K3), h4, h2]
  have hheap : w'.heap.size = w.heap.size := by
    obtain ⟨es, c, es', c', _, rfl⟩ := h6
    simp [Go.ChangeMaps.setBlock]
  refine ⟨w', hr, ⟨_, ?_, hsz, fun j zd => ?_⟩, Mod.grown (row := some b) (Mod.refl _ _) h6.grown (fun i hi _ => (Option.some.inj hi).symm), hheap⟩
  · obtain ⟨es, clock, g1, g2, g3, g4⟩ := h5
    refine ⟨es, clock, g1, g2, ?_, g4⟩
    have : Maps.size (D.put (.int .i64 k) (.lit (E.lit v))) = es.size := by rw [g4]; simp [Maps.size, length_sorted]
    omega
  · by_cases e : j = k
    · subst e
      rw [atKey_put_same h1.isMap (isKey3 j)]
      dsimp only
      rw [if_pos rfl]
    · rw [atKey_put_other (by intro h; injection h with _ h; exact e h), h3]
      dsimp only
      rw [if_neg e]
theorem MapV.len (h : MapV E w b f n) (ty : TypeId) : (Builtin.len_ #[E.t] ty #[.map (some b)]).run Try.prog w = .ok (.int .i64 (n : Int)) w := by
  obtain ⟨D, h1, h2, _⟩ := h
  rw [← h2]
  exact h1.len E.ht ty
theorem MapV.congr (h : MapV E w b f n) {g : Int → Option V} (hg : ∀ k, f k = g k) : MapV E w b g n := by
  obtain rfl : f = g := funext hg
  exact h
end
end Go.Proofs.Ytkdlmnhkbockhaa
