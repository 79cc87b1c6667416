/- What the map of places answers and how it changes. Conditions: those of each theorem. -/
import Derived.Test.YtcpiplfajgdohaaT8
import Derived.WideKeyRuns
namespace Go.Proofs.Ytcpiplfajgdohaa
open Go.RowKit Go.Shelf

theorem run_check4 (em : Bool) (n : Nat) (w : World) (a b c d : Int) :
    (Instr.checkKey em (n + 2) 78 (.agg #[.int .u8 a, .int .u8 b, .int .u8 c, .int .u8 d])).run Try.prog w = .ok () w := by
  obtain ⟨i, hi, hzz⟩ := Option.map_eq_some_iff.1 info5
  simp only [Prod.mk.injEq] at hzz
  simp [Instr.checkKey, run_underlying Try.underlying78, run_underlying Try.underlying5, Std.Legacy.Range.forIn_eq_forIn_range', List.range', sizeOf, typeInfo, hi, hzz, part]

theorem run_equalIn5 (w : World) (n : Nat) (a b : Int) : (Op.equalIn (n + 1) 5 (.int .u8 a) (.int .u8 b)).run Try.prog w = .ok (a == b) w := by
  simp [Op.equalIn, run_underlying Try.underlying5]
theorem run_equalIn78 (w : World) (n : Nat) (a b c d a' b' c' d' : Int) :
    (Op.equalIn (n + 2) 78 (.agg #[.int .u8 a, .int .u8 b, .int .u8 c, .int .u8 d]) (.agg #[.int .u8 a', .int .u8 b', .int .u8 c', .int .u8 d'])).run Try.prog w = .ok (a == a' && (b == b' && (c == c' && d == d'))) w := by
  obtain ⟨i, hi, hzz⟩ := Option.map_eq_some_iff.1 info5
  simp only [Prod.mk.injEq] at hzz
  have h5 := fun (x y : Int) (w : World) => run_equalIn5 w n x y
  rw [Op.equalIn]
  simp [run_underlying Try.underlying78, Std.Legacy.Range.forIn_eq_forIn_range', List.range', sizeOf, typeInfo, hi, hzz, part, h5]
  by_cases h1 : a = a' <;> by_cases h2 : b = b' <;> by_cases h3 : c = c' <;> by_cases h4 : d = d' <;> simp [h1, h2, h3, h4]

theorem run_arrayAt (w : World) (b o n c : Nat) (h : 4 ≤ n) : (Instr.arrayAt 78 (.slice (some ⟨b, o, none⟩) n c)).run Try.prog w = .ok (.pointer (some ⟨b, o, none⟩)) w := by
  have h' : ¬ n < 4 := by omega
  have hu : Try.prog.underlying 78 = _ := Try.underlying78
  simp [Instr.arrayAt, run_underlying Try.underlying78, h']

/-- A key of four bytes as a value. -/
def kv (k : List UInt8) : Value := .agg (bts k).toArray
theorem kv_four (a b c d : UInt8) : kv [a, b, c, d] = .agg #[.int .u8 a.toNat, .int .u8 b.toNat, .int .u8 c.toNat, .int .u8 d.toNat] := rfl
theorem four_of_length {k : List UInt8} (h : k.length = 4) : ∃ a b c d, k = [a, b, c, d] := by
  rcases k with _ | ⟨a, _ | ⟨b, _ | ⟨c, _ | ⟨d, _ | ⟨e, k⟩⟩⟩⟩⟩ <;> simp at h
  exact ⟨a, b, c, d, rfl⟩
theorem toNat_inj (a b : UInt8) : ((a.toNat : Int) == (b.toNat : Int)) = (a == b) := by
  rw [Bool.eq_iff_iff, beq_iff_eq, beq_iff_eq]
  constructor
  · intro h; exact UInt8.toNat_inj.1 (by omega)
  · intro h; rw [h]
theorem run_equal_kv (w : World) {k k' : List UInt8} (h : k.length = 4) (h' : k'.length = 4) : (Op.equal 78 (kv k) (kv k')).run Try.prog w = .ok (k == k') w := by
  obtain ⟨a, b, c, d, rfl⟩ := four_of_length h
  obtain ⟨a', b', c', d', rfl⟩ := four_of_length h'
  rw [kv_four, kv_four, Op.equal, Op.maxDepth, run_equalIn78, toNat_inj, toNat_inj, toNat_inj, toNat_inj]
  simp
theorem kv_inj {k k' : List UInt8} (h : kv k = kv k') : k = k' := by
  unfold kv bts at h
  injection h with h
  have h := congrArg Array.toList h
  simp only at h
  refine List.map_inj_right (f := B8) (fun x y e => ?_) |>.1 h
  unfold B8 at e
  injection e with _ e
  exact UInt8.toNat_inj.1 (by omega)

/-- An entry of the map of places. -/
structure PE where
  k : List UInt8
  ps : List Nat
  A : Option Addr
  c : Nat
/-- The entries of the map, from number n on. -/
def mEnt : Nat → List PE → List MapEntry
  | _, [] => []
  | n, e :: l => { key := kv e.k, val := .slice e.A e.ps.length e.c, born := n } :: mEnt (n + 1) l
theorem mEnt_length (n : Nat) (l : List PE) : (mEnt n l).length = l.length := by
  induction l generalizing n with
  | nil => rfl
  | cons e l ih => simp [mEnt, ih]
theorem mEnt_append (n : Nat) (l : List PE) (e : PE) : mEnt n (l ++ [e]) = mEnt n l ++ [{ key := kv e.k, val := .slice e.A e.ps.length e.c, born := n + l.length }] := by
  induction l generalizing n with
  | nil => simp [mEnt]
  | cons x l ih => simp [mEnt, ih]; omega
theorem mEnt_get (n : Nat) (l : List PE) (i : Nat) : (mEnt n l)[i]? = l[i]?.map fun e => { key := kv e.k, val := .slice e.A e.ps.length e.c, born := n + i } := by
  induction l generalizing n i with
  | nil => simp [mEnt]
  | cons e l ih =>
    cases i with
    | zero => simp [mEnt]
    | succ i => simp only [mEnt, List.getElem?_cons_succ, ih, Nat.add_assoc, Nat.add_comm 1 i]
theorem mEnt_set (n : Nat) (l : List PE) (i : Nat) (e : PE) : mEnt n (l.set i e) = (mEnt n l).set i { key := kv e.k, val := .slice e.A e.ps.length e.c, born := n + i } := by
  induction l generalizing n i with
  | nil => simp [mEnt]
  | cons x l ih =>
    cases i with
    | zero => simp [mEnt]
    | succ i => simp only [List.set_cons_succ, mEnt, ih, Nat.add_assoc, Nat.add_comm 1 i]

theorem run_findAsking_none (w : World) {k : List UInt8} (hk : k.length = 4) (n : Nat) (l : List PE) (h4 : ∀ e ∈ l, e.k.length = 4) (h : ∀ e ∈ l, e.k ≠ k) : ∀ i, (Instr.findAsking 78 (kv k) (mEnt n l) i).run Try.prog w = .ok none w := by
  induction l generalizing n with
  | nil => intro i; simp [mEnt, Instr.findAsking]
  | cons e l ih =>
    intro i
    have he := run_equal_kv w hk (h4 e (by simp))
    have hne : (k == e.k) = false := by simp; exact fun hh => h e (by simp) hh.symm
    rw [hne] at he
    simp [mEnt, Instr.findAsking, he, ih (n + 1) (fun e he => h4 e (by simp [he])) (fun e he => h e (by simp [he]))]
theorem run_findAsking_some (w : World) {k : List UInt8} (hk : k.length = 4) (n : Nat) (l : List PE) (h4 : ∀ e ∈ l, e.k.length = 4) (hn : (l.map (·.k)).Nodup) {j : Nat} {e : PE} (hj : l[j]? = some e) (he : e.k = k) : ∀ i, (Instr.findAsking 78 (kv k) (mEnt n l) i).run Try.prog w = .ok (some (i + j, .slice e.A e.ps.length e.c)) w := by
  induction l generalizing n j with
  | nil => simp at hj
  | cons x l ih =>
    intro i
    have hx := run_equal_kv w hk (h4 x (by simp))
    cases j with
    | zero =>
      have hxe : x = e := by simpa using hj
      subst hxe
      have : (k == x.k) = true := by simp [he]
      rw [this] at hx
      simp [mEnt, Instr.findAsking, hx]
    | succ j =>
      have hj' : l[j]? = some e := by simpa using hj
      simp only [List.map_cons, List.nodup_cons] at hn
      have hne : (k == x.k) = false := by
        rw [beq_eq_false_iff_ne]
        intro hh
        refine hn.1 ?_
        rw [← hh, ← he]
        exact List.mem_map.2 ⟨e, List.mem_of_getElem? hj', rfl⟩
      rw [hne] at hx
      simp [mEnt, Instr.findAsking, hx, ih (n + 1) (fun e he => h4 e (by simp [he])) hn.2 hj', Nat.add_assoc, Nat.add_comm 1 j]
theorem run_findKey4 (w : World) (k : Value) (es : List MapEntry) : (Instr.findKey 78 k es).run Try.prog w = (Instr.findAsking 78 k es).run Try.prog w :=
  run_findKey_eq w (by rw [Try.underlying78]) k es
theorem run_check_kv (em : Bool) (w : World) {k : List UInt8} (h : k.length = 4) : (Instr.checkKey em 10000 78 (kv k)).run Try.prog w = .ok () w := by
  obtain ⟨a, b, c, d, rfl⟩ := four_of_length h
  exact run_check4 em 9998 w _ _ _ _
theorem sameBits_kv {k : List UInt8} (h : k.length = 4) : Instr.sameBits 10000 (kv k) (kv k) = true := by
  obtain ⟨a, b, c, d, rfl⟩ := four_of_length h
  simp [kv_four, Instr.sameBits]
/-- Block M is the map with these entries. -/
def MapB (w : World) (M : Nat) (l : List PE) : Prop := w.heap[M]? = some (.map (mEnt 0 l).toArray l.length)
theorem MapB.lt {w : World} {M : Nat} {l : List PE} (h : MapB w M l) : M < w.heap.size := (Array.getElem?_eq_some_iff.1 h).1
theorem MapB.mod {S : Nat → Prop} {w w' : World} {M : Nat} {l : List PE} (h : MapB w M l) (hm : Mod S w w') (hS : ¬ S M) : MapB w' M l := (hm.block M h.lt hS).trans h

theorem zero77 (w : World) : (zeroValue 77).run Try.prog w = .ok (.slice none 0 0) w := by kernel_rfl

theorem run_lookup_none (w : World) {M : Nat} {l : List PE} {k : List UInt8} (hM : MapB w M l) (hk : k.length = 4) (h4 : ∀ e ∈ l, e.k.length = 4) (h : ∀ e ∈ l, e.k ≠ k) :
    (Instr.lookup 59 (.map (some M)) (kv k) false).run Try.prog w = .ok (.slice none 0 0) w := by
  have hf := run_findAsking_none w hk 0 l h4 h 0
  have hc := fun em => run_check_kv em w hk
  unfold MapB at hM
  simp [Instr.lookup, run_underlying Try.underlying59, getObj, Sem.run, hM, hc, run_findKey4, hf, zero77]
theorem run_lookup_some (w : World) {M : Nat} {l : List PE} {k : List UInt8} (hM : MapB w M l) (hk : k.length = 4) (h4 : ∀ e ∈ l, e.k.length = 4) (hn : (l.map (·.k)).Nodup) {j : Nat} {e : PE} (hj : l[j]? = some e) (he : e.k = k) :
    (Instr.lookup 59 (.map (some M)) (kv k) false).run Try.prog w = .ok (.slice e.A e.ps.length e.c) w := by
  have hf := run_findAsking_some w hk 0 l h4 hn hj he 0
  have hc := fun em => run_check_kv em w hk
  unfold MapB at hM
  simp [Instr.lookup, run_underlying Try.underlying59, getObj, Sem.run, hM, hc, run_findKey4, hf]

theorem putObj_same {w : World} {M : Nat} {o : Obj} (h : w.heap[M]? = some o) : w.putObj M o = w := by
  obtain ⟨hlt, he⟩ := Array.getElem?_eq_some_iff.1 h
  unfold World.putObj
  have : w.heap.setIfInBounds M o = w.heap := by
    apply Array.ext_getElem?
    intro i
    by_cases hi : M = i
    · subst hi; simp [hlt, he]
    · simp [hi]
  rw [this]

theorem run_mapEntry_some (w : World) {M : Nat} {l : List PE} {k : List UInt8} (hM : MapB w M l) (hk : k.length = 4) (h4 : ∀ e ∈ l, e.k.length = 4) (hn : (l.map (·.k)).Nodup) {j : Nat} {e : PE} (hj : l[j]? = some e) (he : e.k = k) :
    (Instr.mapEntry 59 (.map (some M)) (kv k)).run Try.prog w = .ok (.tuple #[.slice e.A e.ps.length e.c, .int .i64 j]) w := by
  have hf := run_findAsking_some w hk 0 l h4 hn hj he 0
  have hc := fun em => run_check_kv em w hk
  have hg := mEnt_get 0 l j
  rw [hj] at hg
  have hsb := sameBits_kv hk
  have hmod : ((mEnt 0 l).modify j fun x => { key := kv k, val := x.val, born := x.born }) = mEnt 0 l := by
    apply List.ext_getElem?
    intro i
    rw [List.getElem?_modify]
    by_cases hi : j = i
    · subst hi; simp [hg, he]
    · simp [hi]
  have hps := putObj_same hM
  unfold World.putObj at hps
  unfold MapB at hM
  simp [Instr.mapEntry, run_underlying Try.underlying59, getObj, setObj, Sem.run, hM, hc, run_findKey4, hf, hg, he, Instr.keyThatStays, hsb, hmod, goInt, hps]

theorem run_mapEntry_none (w : World) {M : Nat} {l : List PE} {k : List UInt8} (hM : MapB w M l) (hk : k.length = 4) (h4 : ∀ e ∈ l, e.k.length = 4) (h : ∀ e ∈ l, e.k ≠ k) :
    (Instr.mapEntry 59 (.map (some M)) (kv k)).run Try.prog w = .ok (.tuple #[.slice none 0 0, .int .i64 l.length]) (w.putObj M (.map (mEnt 0 (l ++ [(⟨k, [], none, 0⟩ : PE)])).toArray (l ++ [(⟨k, [], none, 0⟩ : PE)]).length)) := by
  have hf := run_findAsking_none w hk 0 l h4 h 0
  have hc := fun em => run_check_kv em w hk
  have hM' := hM
  unfold MapB at hM
  rw [mEnt_append]
  simp [Instr.mapEntry, run_underlying Try.underlying59, getObj, setObj, Sem.run, hM, hc, run_findKey4, hf, zero77, goInt, World.putObj]

theorem run_entryStore (w : World) {M : Nat} {l : List PE} (hM : MapB w M l) {j : Nat} {e : PE} (hj : l[j]? = some e) (A : Option Addr) (ps : List Nat) (c : Nat) :
    (Instr.entryStore 59 (.map (some M)) (.int .i64 j) (.slice A ps.length c)).run Try.prog w = .ok () (w.putObj M (.map (mEnt 0 (l.set j ⟨e.k, ps, A, c⟩)).toArray (l.set j ⟨e.k, ps, A, c⟩).length)) := by
  have hidx : (mEnt 0 l).findIdx? (fun x => (x.born : Int) == (j : Int)) = some j := by
    rw [List.findIdx?_eq_some_iff_getElem]
    obtain ⟨hlt, he⟩ := List.getElem?_eq_some_iff.1 hj
    refine ⟨by rw [mEnt_length]; exact hlt, ?_, ?_⟩
    · have hg := mEnt_get 0 l j
      rw [hj, List.getElem?_eq_getElem (by rw [mEnt_length]; exact hlt)] at hg
      have hg' := Option.some.inj hg
      rw [hg']
      simp
    · intro i hi
      have hg := mEnt_get 0 l i
      rw [List.getElem?_eq_getElem (by rw [mEnt_length]; omega), List.getElem?_eq_getElem (by omega)] at hg
      have hg' := Option.some.inj hg
      rw [hg']
      simp
      omega
  have hmod : ((mEnt 0 l).modify j fun x => { key := x.key, val := .slice A ps.length c, born := x.born }) = mEnt 0 (l.set j ⟨e.k, ps, A, c⟩) := by
    apply List.ext_getElem?
    intro i
    rw [List.getElem?_modify, mEnt_set, List.getElem?_set]
    have hg := mEnt_get 0 l j
    rw [hj] at hg
    by_cases hi : j = i
    · subst hi
      rw [if_pos rfl, if_pos (by rw [mEnt_length]; exact (List.getElem?_eq_some_iff.1 hj).1)]
      simp [hg]
    · simp [hi]
  unfold MapB at hM
  simp [Instr.entryStore, getObj, setObj, Sem.run, hM, asInt, asIntOf, hidx, hmod, World.putObj]
end Go.Proofs.Ytcpiplfajgdohaa
