/- The words for memory that the walks of this seat use: bytes and slices that are read, rows that a call owns, and what a call has changed. No condition. -/
import Derived.Below
import Derived.WalkKit
import Derived.OwnWalk
import Derived.Deep.AppendLies
import Derived.Deep.Draws
import Derived.Maps.AppendAt
import Derived.Laws.MakeOwn
import Derived.Laws.OwnMore
import Derived.Laws.BytesArg
import Derived.Laws.BytesString
import Derived.Lib.Hide
import Derived.Laws.Rows
import Derived.Deep.DeepMust
import Derived.Outline
import Derived.IntWalk
namespace Go.Proofs.Ytkdlmnhkbockhaa
open Go.RowKit

/-- a byte as a value -/
def B8 (x : UInt8) : Value := .int .u8 (x.toNat : Int)
/-- bytes as values -/
def bts (xs : List UInt8) : List Value := xs.map B8
theorem bts_length (xs : List UInt8) : (bts xs).length = xs.length := by simp [bts]
theorem bts_append (xs ys : List UInt8) : bts (xs ++ ys) = bts xs ++ bts ys := by simp [bts]
theorem bts_one (xs : List UInt8) : ∀ u ∈ bts xs, u.oneCell' = true := by
  intro u hu
  simp only [bts, List.mem_map] at hu
  obtain ⟨x, _, rfl⟩ := hu
  rfl
theorem bts_get (xs : List UInt8) (j : Nat) (h : j < xs.length) : (bts xs)[j]? = some (.int .u8 (xs[j].toNat : Int)) := by
  simp [bts, List.getElem?_eq_getElem h, B8]

theorem block_add (a : Addr) (n : Nat) : (a.add n).block = a.block := by unfold Addr.add; split <;> rfl
theorem add_add (a : Addr) (i j : Nat) : (a.add i).add j = a.add (i + j) := by
  unfold Addr.add
  by_cases hi : i = 0 <;> by_cases hj : j = 0 <;> simp [hi, hj, Nat.add_assoc]

theorem min_run (P : Program) (ats : Array TypeId) (ty : TypeId) (k k' : IntKind) (x y : Int) (w : World) : (Builtin.min_ ats ty #[.int k x, .int k' y]).run P w = .ok (.int k (if y < x then y else x)) w := by
  simp [Builtin.min_, Builtin.min2]
theorem max_run (P : Program) (ats : Array TypeId) (ty : TypeId) (k k' : IntKind) (x y : Int) (w : World) : (Builtin.max_ ats ty #[.int k x, .int k' y]).run P w = .ok (.int k (if x < y then y else x)) w := by
  simp [Builtin.max_, Builtin.max2]

/-- In w the slice value '.slice A n c' holds the values vs. -/
structure RdV (w : World) (A : Option Addr) (n c : Nat) (vs : List Value) : Prop where
  len : vs.length = n
  cap : n ≤ c
  cells : 0 < n → ∃ b o, A = some ⟨b, o, none⟩ ∧ ∀ j u, vs[j]? = some u → w.cell? ⟨b, o + j, none⟩ = some u
/-- .. the bytes xs. -/
abbrev RdB (w : World) (A : Option Addr) (n c : Nat) (xs : List UInt8) : Prop := RdV w A n c (bts xs)

/-- From w to w' only blocks in S have changed, and new ones have come. -/
structure Mod (S : Nat → Prop) (w w' : World) : Prop where
  os : w'.os = w.os
  tape : w'.tape = w.tape
  output : w'.output = w.output
  size : w.heap.size ≤ w'.heap.size
  block : ∀ k, k < w.heap.size → ¬ S k → w'.heap[k]? = w.heap[k]?
/-- Nothing that was there has changed. -/
abbrev New (w w' : World) : Prop := Mod (fun _ => False) w w'

theorem Mod.refl (S : Nat → Prop) (w : World) : Mod S w w := ⟨rfl, rfl, rfl, Nat.le_refl _, fun _ _ _ => rfl⟩
theorem Mod.trans {S T : Nat → Prop} {a b c : World} (h : Mod S a b) (k : Mod T b c) (hT : ∀ i, i < a.heap.size → T i → S i) : Mod S a c :=
  ⟨k.os.trans h.os, k.tape.trans h.tape, k.output.trans h.output, Nat.le_trans h.size k.size, fun i hi hs =>
    (k.block i (Nat.lt_of_lt_of_le hi h.size) (fun ht => hs (hT i hi ht))).trans (h.block i hi hs)⟩
theorem Mod.mono {S T : Nat → Prop} {a b : World} (h : Mod S a b) (hT : ∀ i, i < a.heap.size → S i → T i) : Mod T a b :=
  ⟨h.os, h.tape, h.output, h.size, fun i hi ht => h.block i hi (fun hs => ht (hT i hi hs))⟩
theorem Mod.new {S : Nat → Prop} {a b : World} (h : New a b) : Mod S a b := h.mono (fun _ _ h => h.elim)
theorem Mod.below {a b : World} (h : New a b) : Below a.heap.size a b := ⟨h.os, h.tape, h.output, h.size, fun k hk => h.block k hk (fun h => h)⟩
theorem Mod.of_below {a b : World} (h : Below a.heap.size a b) : New a b := ⟨h.os, h.tape, h.output, h.size, fun k hk _ => h.block k hk⟩
theorem Mod.of_grown {a b : World} {row : Option Nat} (h : a.grownBy b row) : Mod (fun k => row = some k) a b :=
  ⟨h.os, h.tape, h.output, h.size, fun k hk hr => h.block k hk (fun e => hr e.symm)⟩
theorem Mod.alloc {S : Nat → Prop} {a b : World} (h : Mod S a b) (o : Obj) : Mod S a (b.alloc o) :=
  h.trans (T := fun _ => False) ⟨rfl, rfl, rfl, by simp, fun k hk _ => Below.heap_alloc b o k hk⟩ (fun _ _ h => h.elim)
theorem Mod.drew {S : Nat → Prop} {a b : World} (h : Mod S a b) : Mod S a b.drew := ⟨h.os, h.tape, h.output, h.size, h.block⟩
theorem Mod.drewN {S : Nat → Prop} {a b : World} (h : Mod S a b) (n : Nat) : Mod S a (b.drewN n) := ⟨h.os, h.tape, h.output, h.size, h.block⟩
theorem Mod.setCell {S : Nat → Prop} {a b : World} (h : Mod S a b) (p : Addr) (u : Value) (hp : p.block < a.heap.size → S p.block) : Mod S a (b.setCell p u) :=
  h.trans (T := fun k => k = p.block) ⟨rfl, rfl, rfl, by simp [World.setCell], fun k _ hk => Below.heap_setCell _ _ _ _ hk⟩ (fun i hi e => by subst e; exact hp hi)
theorem Mod.grown {S : Nat → Prop} {a b c : World} {row : Option Nat} (h : Mod S a b) (hg : b.grownBy c row) (hr : ∀ k, row = some k → k < a.heap.size → S k) : Mod S a c :=
  h.trans (Mod.of_grown hg) (fun i hi e => hr i e hi)
theorem Mod.then_below {S : Nat → Prop} {a b c : World} (h : Mod S a b) (k : Below b.heap.size b c) : Mod S a c :=
  h.trans (Mod.of_below k) (fun _ _ h => h.elim)
theorem Mod.cell {S : Nat → Prop} {a b : World} (h : Mod S a b) {p : Addr} {u : Value} (hc : a.cell? p = some u) (hp : ¬ S p.block) : b.cell? p = some u :=
  (World.cell?_of_block (h.block p.block (World.block_lt_of_cell? a p hc) hp)).trans hc

theorem RdV.mod {S : Nat → Prop} {w w' : World} {A : Option Addr} {n c : Nat} {vs : List Value} (h : RdV w A n c vs) (hm : Mod S w w') (hS : ∀ ad, A = some ad → ¬ S ad.block) : RdV w' A n c vs :=
  ⟨h.len, h.cap, fun hn => by
    obtain ⟨b, o, e, hc⟩ := h.cells hn
    exact ⟨b, o, e, fun j u hu => hm.cell (hc j u hu) (show ¬ S b from hS _ e)⟩⟩
theorem RdV.new {w w' : World} {A : Option Addr} {n c : Nat} {vs : List Value} (h : RdV w A n c vs) (hm : New w w') : RdV w' A n c vs := h.mod hm (fun _ _ h => h)
theorem RdV.nil (w : World) (A : Option Addr) (c : Nat) : RdV w A 0 c [] := ⟨rfl, Nat.zero_le _, fun h => absurd h (by omega)⟩
theorem RdV.at_ {w : World} {b o : Nat} {n c : Nat} {vs : List Value} (h : RdV w (some ⟨b, o, none⟩) n c vs) (j : Nat) (u : Value) (hu : vs[j]? = some u) : w.cell? ⟨b, o + j, none⟩ = some u := by
  obtain ⟨b', o', e, hc⟩ := h.cells (by have := (List.getElem?_eq_some_iff.1 hu).1; have := h.len; omega)
  cases e
  exact hc j u hu
theorem RdV.byte {w : World} {b o : Nat} {n c : Nat} {xs : List UInt8} (h : RdB w (some ⟨b, o, none⟩) n c xs) (j : Nat) (hj : j < xs.length) : w.cell? ⟨b, o + j, none⟩ = some (.int .u8 (xs[j].toNat : Int)) :=
  RdV.at_ h j _ (bts_get xs j hj)
theorem RdV.byteD {w : World} {b o : Nat} {n c : Nat} {xs : List UInt8} (h : RdB w (some ⟨b, o, none⟩) n c xs) (j : Nat) (hj : j < xs.length) : w.cell? ⟨b, o + j, none⟩ = some (.int .u8 ((xs.getD j 0).toNat : Int)) := by
  rw [show xs.getD j 0 = xs[j] from by simp [List.getD_eq_getElem?_getD, hj]]
  exact h.byte j hj
/-- Where there is something to read, the address is there. -/
theorem RdV.addr {w : World} {A : Option Addr} {n c : Nat} {vs : List Value} (h : RdV w A n c vs) (hn : 0 < n) : ∃ b o, A = some ⟨b, o, none⟩ := by
  obtain ⟨b, o, e, _⟩ := h.cells hn
  exact ⟨b, o, e⟩
theorem RdV.zero {w : World} {A A' : Option Addr} {n c c' : Nat} {vs : List Value} (h : RdV w A n c vs) (hn : n = 0) : RdV w A' 0 c' [] ∧ vs = [] :=
  ⟨RdV.nil _ _ _, List.eq_nil_of_length_eq_zero (by rw [h.len]; exact hn)⟩
/-- A part of it. -/
theorem RdV.cut {w : World} {b o : Nat} {n c : Nat} {vs : List Value} (h : RdV w (some ⟨b, o, none⟩) n c vs) (lo hi c' : Nat) (h1 : lo ≤ hi) (h2 : hi ≤ n) (hc' : hi - lo ≤ c') : RdV w (some ⟨b, o + lo, none⟩) (hi - lo) c' ((vs.take hi).drop lo) := by
  refine ⟨by have := h.len; simp; omega, hc', fun hn => ⟨b, o + lo, rfl, fun j u hu => ?_⟩⟩
  rw [Nat.add_assoc]
  refine h.at_ (lo + j) u ?_
  rw [List.getElem?_drop, List.getElem?_take] at hu
  split at hu
  · exact hu
  · cases hu
theorem addr_add (b o k : Nat) : (⟨b, o, none⟩ : Addr).add k = ⟨b, o + k, none⟩ := by unfold Addr.add; split <;> simp_all
theorem RdV.cut_map {w : World} {A : Option Addr} {n c : Nat} {vs : List Value} (h : RdV w A n c vs) (lo c' : Nat) (h1 : lo ≤ n) (hc' : n - lo ≤ c') : RdV w (A.map (·.add lo)) (n - lo) c' (vs.drop lo) := by
  by_cases hz : n - lo = 0
  · rw [hz, List.drop_eq_nil_of_le (by rw [h.len]; omega)]
    exact RdV.nil _ _ _
  · obtain ⟨b, o, rfl⟩ := h.addr (by omega)
    have := h.cut lo n c' h1 (Nat.le_refl _) hc'
    rw [List.take_of_length_le (by rw [h.len]; exact Nat.le_refl _)] at this
    rw [Option.map_some, addr_add]
    exact this
theorem RdV.blen {w : World} {A : Option Addr} {n c : Nat} {xs : List UInt8} (h : RdB w A n c xs) : xs.length = n := by have := h.len; rwa [bts_length] at this

/-- v is a row of the call's own (its block is base or later) that holds vs. -/
abbrev OwnV (w : World) (base : Nat) (e : TypeId) (v : Value) (vs : List Value) : Prop := w.ownsRow base e 1 v vs.length vs
theorem OwnV.form {w : World} {base : Nat} {e : TypeId} {v : Value} {vs : List Value} (h : OwnV w base e v vs) :
    ∃ A c, v = .slice A vs.length c ∧ RdV w A vs.length c vs ∧ c ≤ maxLen ∧ (∀ ad, A = some ad → ad.block < w.heap.size ∧ base ≤ ad.block) ∧ (.slice A vs.length c : Value).ownBlock = A.map (·.block) := by
  have h0 := h
  rcases h.2 with ⟨rfl, hn⟩ | ⟨g, cap, cur, rfl, hb, hg, hnc, hcm, hcs, htake⟩
  · have : vs = [] := List.eq_nil_of_length_eq_zero hn
    subst this
    exact ⟨none, 0, rfl, RdV.nil _ _ _, by simp [maxLen], by simp, rfl⟩
  · refine ⟨some ⟨g, 0, none⟩, cap, rfl, ⟨rfl, hnc, fun _ => ⟨g, 0, rfl, fun j u hu => by have := h0.cells (g := g) rfl j u hu; rwa [show (⟨g, 0, none⟩ : Addr).add j = ⟨g, 0 + j, none⟩ from by unfold Addr.add; split <;> simp_all] at this⟩⟩, hcm, ?_, rfl⟩
    intro ad e
    injection e with e
    subst e
    exact ⟨(Array.getElem?_eq_some_iff.1 hg).1, hb⟩
theorem OwnV.rd {w : World} {base : Nat} {e : TypeId} {A : Option Addr} {n c : Nat} {vs : List Value} (h : OwnV w base e (.slice A n c) vs) : RdV w A n c vs := by
  obtain ⟨A', c', hv, hr, -⟩ := h.form
  injection hv with h1 h2 h3
  subst h1 h2 h3
  exact hr
theorem OwnV.mod {S : Nat → Prop} {w w' : World} {base : Nat} {e : TypeId} {v : Value} {vs : List Value} (h : OwnV w base e v vs) (hm : Mod S w w') (hS : ∀ k, v.ownBlock = some k → ¬ S k) : OwnV w' base e v vs := by
  refine ⟨h.1, ?_⟩
  rcases h.2 with hn | ⟨g, cap, cur, rfl, hb, hgg, rest⟩
  · exact .inl hn
  · exact .inr ⟨g, cap, cur, rfl, hb, (hm.block g (Array.getElem?_eq_some_iff.1 hgg).1 (hS g rfl)).trans hgg, rest⟩
theorem OwnV.new {w w' : World} {base : Nat} {e : TypeId} {v : Value} {vs : List Value} (h : OwnV w base e v vs) (hm : New w w') : OwnV w' base e v vs := h.mod hm (fun _ _ h => h)
theorem OwnV.lower {w : World} {base base' : Nat} {e : TypeId} {v : Value} {vs : List Value} (h : OwnV w base e v vs) (hb : base' ≤ base) : OwnV w base' e v vs := by
  refine ⟨h.1, ?_⟩
  rcases h.2 with hn | ⟨g, cap, cur, rfl, hg, rest⟩
  · exact .inl hn
  · exact .inr ⟨g, cap, cur, rfl, Nat.le_trans hb hg, rest⟩
theorem OwnV.nil (w : World) (base : Nat) (e : TypeId) : OwnV w base e (.slice none 0 0) [] := World.ownsRow_nil w base e 1
theorem OwnV.block_base {w : World} {base : Nat} {e : TypeId} {v : Value} {vs : List Value} (h : OwnV w base e v vs) : ∀ k, v.ownBlock = some k → base ≤ k ∧ k < w.heap.size := h.lt

section
variable {P : Program} (w : World)
/-- An append whose run is known. -/
theorem wpList_append_run {ops : Array Oper} {rest : List Oper} {o : Oper} {a : Act} {Q : Exit → Act → World → Prop} {w' : World} {v : Value} (hgd : o.guard = none) (s x : Operand) (ts : Array TypeId)
    (ho : o.op = .call { callee := .builtin .append, args := #[s, x], argTypes := ts })
    (hrun : (Builtin.append_ ts o.type #[a.eval s, a.eval x]).run P w = .ok v w') (h : wpList P ops Q rest (a.put o.dst v) w') : wpList P ops Q (o :: rest) a w :=
  wpList_plain hgd fun _ hK => by
    unfold Oper.wp execOp
    simp only [ho, resolve, invoke, builtin, Sem.run_bind, Sem.run_pure, Result.andThen_ok, List.map_toArray, List.map_cons, List.map_nil, hrun]
    exact hK _ _ h
/-- append(v, src...), v of the call's own, src whatever is read. -/
theorem run_append_src (base : Nat) (t ty e : TypeId) (i : TypeInfo) (z : Value) (bytes : Nat) (ht : P.underlying t = some (.slice e)) (hi : P.info? e = some i) (hz : i.zero = some z)
    (hsize : i.size = 1) (hby : i.bytes = bytes) (hzs : z.cells.size = 1)
    (v : Value) (xs : List Value) (hown : OwnV w base e v xs)
    (A : Option Addr) (m c : Nat) (news : List Value) (hr : RdV w A m c news) (h1 : ∀ u ∈ news, u.oneCell' = true)
    (h63 : xs.length + m ≤ maxLen) (hbytes : (xs.length + m) * bytes ≤ 140737488355328) (hbase : base ≤ w.heap.size) :
    ∃ v' w', (Builtin.append_ #[t, t] ty #[v, .slice A m c]).run P w = .ok v' w' ∧ OwnV w' base e v' (xs ++ news) ∧ w.grownBy w' v.ownBlock ∧
      (v'.ownBlock = v.ownBlock ∨ v'.ownBlock = some w.heap.size) := by
  have hlen : (xs ++ news).length = xs.length + m := by rw [List.length_append, hr.len]
  by_cases hm : m = 0
  · subst hm
    have hn : news = [] := List.eq_nil_of_length_eq_zero hr.len
    subst hn
    refine ⟨v, w, ?_, by simpa using hown, World.grownBy.refl w _, .inl rfl⟩
    rcases hown.2 with ⟨rfl, h0⟩ | ⟨g, cap, cur, rfl, _, _, hnc, _⟩
    · rcases A with _ | ad <;> simp [Builtin.append_, run_underlying ht, sizeOf, typeInfo, hi, Builtin.lenOf, Builtin.firstCells, h0, hsize, loadCells, loadCellsFrom]
    · rcases A with _ | ad <;> simp [Builtin.append_, run_underlying ht, sizeOf, typeInfo, hi, Builtin.lenOf, Builtin.firstCells, hnc, storeCells, hsize, loadCells, loadCellsFrom]
  · obtain ⟨b, o, rfl, hc⟩ := hr.cells (by omega)
    obtain ⟨v', w', hrun, h2, h3, _, h5⟩ := run_append_own_at (P := P) w base t ty e i z 1 bytes ht hi hz hsize hby hzs (by omega) v xs.length xs hown ⟨b, o, none⟩ m c news (by rw [hr.len]; omega)
      (fun j u hu => by rw [show (⟨b, o, none⟩ : Addr).add j = ⟨b, o + j, none⟩ from by unfold Addr.add; split <;> simp_all]; exact hc j u hu) h1 h63 hbytes hbase
    exact ⟨v', w', hrun, by unfold OwnV; rw [hlen]; exact h2, h3, h5⟩

theorem wp_append_src {o : Oper} {a : Act} {K : Act → World → Prop} {Q : Exit → Act → World → Prop} (s x : Operand) (t : TypeId)
    (ho : o.op = .call { callee := .builtin .append, args := #[s, x], argTypes := #[t, t] })
    (base : Nat) (e : TypeId) (z : Value) (bytes : Nat) (ht : P.underlying t = some (.slice e)) (hinfo : (P.info? e).map (fun i => (i.zero, i.size, i.bytes)) = some (some z, 1, bytes)) (hzs : z.cells.size = 1)
    (v : Value) (xs : List Value) (hs : a.eval s = v) (hown : OwnV w base e v xs)
    (A : Option Addr) (m c : Nat) (news : List Value) (hx : a.eval x = .slice A m c) (hr : RdV w A m c news) (h1 : ∀ u ∈ news, u.oneCell' = true)
    (h63 : xs.length + m ≤ maxLen) (hbytes : (xs.length + m) * bytes ≤ 140737488355328) (hbase : base ≤ w.heap.size)
    (h : ∀ v' w', OwnV w' base e v' (xs ++ news) → w.grownBy w' v.ownBlock → (v'.ownBlock = v.ownBlock ∨ v'.ownBlock = some w.heap.size) → K (a.put o.dst v') w') : o.wp P a w K Q := by
  obtain ⟨i, hi, hzz⟩ := Option.map_eq_some_iff.1 hinfo
  simp only [Prod.mk.injEq] at hzz
  obtain ⟨hz0, hz1, hz2⟩ := hzz
  obtain ⟨v', w', hrun, h2, h3, h4⟩ := run_append_src (P := P) w base t o.type e i z bytes ht hi hz0 hz1 hz2 hzs v xs hown A m c news hr h1 h63 hbytes hbase
  unfold Oper.wp execOp
  simp only [ho, resolve, invoke, builtin, Sem.run_bind, Sem.run_pure, Result.andThen_ok, List.map_toArray, List.map_cons, List.map_nil, hs, hx, hrun]
  exact h v' w' h2 h3 h4

theorem wpList_append_src {ops : Array Oper} {rest : List Oper} {o : Oper} {a : Act} {Q : Exit → Act → World → Prop} (hgd : o.guard = none) (s x : Operand) (t : TypeId)
    (ho : o.op = .call { callee := .builtin .append, args := #[s, x], argTypes := #[t, t] })
    (base : Nat) (e : TypeId) (z : Value) (bytes : Nat) (ht : P.underlying t = some (.slice e)) (hinfo : (P.info? e).map (fun i => (i.zero, i.size, i.bytes)) = some (some z, 1, bytes)) (hzs : z.cells.size = 1)
    (v : Value) (xs : List Value) (hs : a.eval s = v) (hown : OwnV w base e v xs)
    (A : Option Addr) (m c : Nat) (news : List Value) (hx : a.eval x = .slice A m c) (hr : RdV w A m c news) (h1 : ∀ u ∈ news, u.oneCell' = true)
    (h63 : xs.length + m ≤ maxLen) (hbytes : (xs.length + m) * bytes ≤ 140737488355328) (hbase : base ≤ w.heap.size)
    (h : ∀ v' w', OwnV w' base e v' (xs ++ news) → w.grownBy w' v.ownBlock → (v'.ownBlock = v.ownBlock ∨ v'.ownBlock = some w.heap.size) → wpList P ops Q rest (a.put o.dst v') w') : wpList P ops Q (o :: rest) a w :=
  wpList_plain hgd fun _ hK => wp_append_src w s x t ho base e z bytes ht hinfo hzs v xs hs hown A m c news hx hr h1 h63 hbytes hbase fun v' w' h2 h3 h4 => hK _ _ (h v' w' h2 h3 h4)
end
/-- Block g is just the cells cs, of element type t, none of them frozen. -/
def Blk (w : World) (g : Nat) (t : TypeId) (cs : Array Value) : Prop := w.heap[g]? = some (.cells cs t (0, 0))
section
variable {w w' : World} {g : Nat} {t : TypeId} {cs : Array Value}
theorem Blk.lt (h : Blk w g t cs) : g < w.heap.size := (Array.getElem?_eq_some_iff.1 h).1
theorem Blk.cell (h : Blk w g t cs) (i : Nat) (u : Value) (hu : cs[i]? = some u) : w.cell? ⟨g, i, none⟩ = some u := (cell_of_row w g i cs t (0, 0) h).trans hu
theorem Blk.frozen (h : Blk w g t cs) (i : Nat) : w.frozen? ⟨g, i, none⟩ = false := by
  unfold Blk at h
  simp [World.frozen?, h]
theorem Blk.fresh (w : World) (t : TypeId) (cs : Array Value) : Blk (w.alloc (.cells cs t)) w.heap.size t cs := heap_alloc_new w _
theorem Blk.mod {S : Nat → Prop} (h : Blk w g t cs) (hm : Mod S w w') (hg : ¬ S g) : Blk w' g t cs := (hm.block g h.lt hg).trans h
theorem Blk.new (h : Blk w g t cs) (hm : New w w') : Blk w' g t cs := h.mod hm (fun h => h)
theorem Blk.alloc (h : Blk w g t cs) (o : Obj) : Blk (w.alloc o) g t cs := h.new ((Mod.refl _ _).alloc o)
theorem Blk.put (h : Blk w g t cs) (i : Nat) (u : Value) : Blk (w.setCell ⟨g, i, none⟩ u) g t (cs.setIfInBounds i u) := by
  unfold Blk at h ⊢
  simp [World.setCell, Array.getElem?_modify, h]
theorem Blk.far (h : Blk w g t cs) (p : Addr) (hp : g ≠ p.block) (u : Value) : Blk (w.setCell p u) g t cs := (Below.heap_setCell w p u g hp).trans h
theorem Blk.ne_ {g' : Nat} {t' : TypeId} {cs' : Array Value} (h : Blk w g t cs) (h' : Blk w g' t' cs') (hne : t ≠ t') : g ≠ g' := by
  rintro rfl
  unfold Blk at h h'
  rw [h] at h'
  injection h' with h'
  injection h' with _ ht
  exact hne ht
theorem OwnV.ne_blk {base : Nat} {e : TypeId} {v : Value} {vs : List Value} (h : OwnV w base e v vs) (hg : Blk w g t cs) (hne : e ≠ t) : ∀ k, v.ownBlock = some k → k ≠ g := by
  rcases h.2 with ⟨rfl, _⟩ | ⟨g', cap, cur, rfl, _, hh, _⟩
  · simp [Value.ownBlock]
  · intro k hk
    have : g' = k := by simpa [Value.ownBlock] using hk
    subst this
    exact Blk.ne_ (t := e) hh hg hne
end

/-- Results: a struct (or an array) that lies in block g, and two slots. -/
theorem res_ctt {P : Program} {fn : Func} {p u v : Tmp} {ty : TypeId} (h : fn.results = #[.cell p ty, .tmp u, .tmp v]) (tmps : Array Value) (w : World) (g : Nat) (t : TypeId) (cs : Array Value) (fr : Nat × Nat) (d : TypeDesc)
    (hp : tmps.getD p undef = .pointer (some ⟨g, 0, none⟩)) (hg : w.heap[g]? = some (.cells cs t fr))
    (hu : P.underlying ty = some d) (hd : (match d with | .struct _ | .array _ _ => true | _ => false) = true) (hi : (P.info? ty).map (·.size) = some cs.size) :
    (results fn tmps).run P w = .ok (.tuple #[.agg cs, tmps.getD u undef, tmps.getD v undef]) w := by
  have hp' : tmps[p]?.getD undef = .pointer (some ⟨g, 0, none⟩) := by simpa using hp
  simp [results, h, hp', asAddr, run_loadVar_row w g t ty cs fr d hg hu hd hi]
end Go.Proofs.Ytkdlmnhkbockhaa
