/- Changes. Conditions: those of each theorem. -/
import Derived.Test.YtkdlmnhkbockhaaU4
namespace Go.Proofs.Ytkdlmnhkbockhaa
open Go.RowKit

/-- A change: a page, its bytes, whether it is absent. -/
structure Chg where
  page : Nat
  bytes : List UInt8
  absent : Bool
def chgC (c : Chg) : List Value := [.int .i64 (c.page : Int), .string ⟨c.bytes.toArray⟩, .bool c.absent]
def chgs (l : List Chg) : List Value := l.flatMap chgC
theorem chgs_length : ∀ l : List Chg, (chgs l).length = l.length * 3
  | [] => rfl
  | c :: l => by
    rw [chgs, List.flatMap_cons, List.length_append, ← chgs, chgs_length l, List.length_cons]
    show 3 + _ = _
    omega
theorem chgs_append (a b : List Chg) : chgs (a ++ b) = chgs a ++ chgs b := by simp [chgs]
theorem chgs_one (l : List Chg) : ∀ u ∈ chgs l, u.oneCell' = true := by
  intro u hu
  obtain ⟨c, _, hc⟩ := List.mem_flatMap.1 hu
  simp only [chgC, List.mem_cons, List.not_mem_nil, or_false] at hc
  rcases hc with rfl | rfl | rfl <;> rfl
theorem info98 : (Try.prog.info? 98).map (fun i => (i.zero, i.size, i.bytes)) = some (some (.agg #[.int .i64 0, .string ⟨#[]⟩, .bool false]), 3, 32) := by kernel_rfl
/-- v is a row of the call's own that holds the changes l. -/
abbrev OwnC (w : World) (base : Nat) (v : Value) (l : List Chg) : Prop := w.ownsRow base 98 3 v l.length (chgs l)
theorem OwnC.nil (w : World) (base : Nat) : OwnC w base (.slice none 0 0) [] := World.ownsRow_nil w base 98 3
theorem OwnC.mod {S : Nat → Prop} {w w' : World} {base : Nat} {v : Value} {l : List Chg} (h : OwnC w base v l) (hm : Mod S w w') (hS : ∀ k, v.ownBlock = some k → ¬ S k) : OwnC w' base v l := by
  refine ⟨h.1, ?_⟩
  rcases h.2 with hn | ⟨g, cap, cur, rfl, hb, hgg, rest⟩
  · exact .inl hn
  · exact .inr ⟨g, cap, cur, rfl, hb, (hm.block g (Array.getElem?_eq_some_iff.1 hgg).1 (hS g rfl)).trans hgg, rest⟩
theorem OwnC.base {w : World} {base : Nat} {A : Option Addr} {n c : Nat} {l : List Chg} (h : OwnC w base (.slice A n c) l) : ∀ k, At A k → base ≤ k := fun k hk => by
  refine (h.lt k ?_).1
  rcases h.2 with ⟨hn, _⟩ | ⟨g, cap, cur, hv, _⟩
  · injection hn with h1
    subst h1
    cases hk
  · injection hv with h1
    subst h1
    exact hk
theorem OwnC.form {w : World} {base : Nat} {v : Value} {l : List Chg} (h : OwnC w base v l) : ∃ A c, v = .slice A l.length c := by
  rcases h.2 with ⟨rfl, hn⟩ | ⟨g, cap, cur, rfl, _⟩
  · exact ⟨none, 0, by rw [hn]⟩
  · exact ⟨_, _, rfl⟩

/-- append of one change. -/
theorem wpList_append_c {ops : Array Oper} {rest : List Oper} {o : Oper} {a : Act} {Q : Exit → Act → World → Prop} {w : World} (hgd : o.guard = none) (s x : Operand)
    (ho : o.op = .call { callee := .builtin .append, args := #[s, x], argTypes := #[48, 48] })
    (base : Nat) (A : Option Addr) (n c : Nat) (xs : List Chg) (hs : a.eval s = .slice A n c) (hn : xs.length = n) (hown : OwnC w base (.slice A n c) xs)
    (g : Nat) (y : Chg) (hx : a.eval x = .slice (some ⟨g, 0, none⟩) 1 1) (hg : Blk w g 98 (chgC y).toArray)
    (hlen : n ≤ 1000000) (hbase : base ≤ w.heap.size)
    (h : ∀ A' c' w', OwnC w' base (.slice A' (n + 1) c') (xs ++ [y]) → Mod (At A) w w' → wpList Try.prog ops Q rest (a.put o.dst (.slice A' (n + 1) c')) w') : wpList Try.prog ops Q (o :: rest) a w := by
  subst hn
  obtain ⟨i, hi, hzz⟩ := Option.map_eq_some_iff.1 info98
  simp only [Prod.mk.injEq] at hzz
  obtain ⟨hz0, hz1, hz2⟩ := hzz
  obtain ⟨v', w', hrun, h2, h3, _, h5⟩ := run_append_own_at (P := Try.prog) w base 48 o.type 98 i _ 3 32 Try.underlying48 hi hz0 hz1 hz2 rfl (by decide) (.slice A xs.length c) xs.length (chgs xs) hown ⟨g, 0, none⟩ 1 1 (chgC y) rfl
    (fun j u hu => by rw [addr_add, Nat.zero_add]; exact hg.cell j u (by simpa using hu)) (fun u hu => chgs_one [y] u (by simpa [chgs] using hu)) (by simp only [maxLen]; omega) (by omega) hbase
  refine wpList_plain hgd fun _ hK => ?_
  unfold Oper.wp execOp
  simp only [ho, resolve, invoke, builtin, Sem.run_bind, Sem.run_pure, Result.andThen_ok, List.map_toArray, List.map_cons, List.map_nil, hs, hx, hrun]
  have h2' : OwnC w' base v' (xs ++ [y]) := by
    unfold OwnC
    rw [chgs_append, List.length_append]
    simpa [chgs] using h2
  obtain ⟨A', c', rfl⟩ := h2'.form
  rw [List.length_append] at h2' ⊢
  exact hK _ _ (h A' c' w' h2' ((Mod.of_grown h3).mono fun k _ hk => OwnV.blk_addr hk))

/-- The changes of a space. -/
def chgL (vs : List VP) (j : Nat) : List Chg := (List.range j).filterMap fun k => if (vs.getD k zV).changed then some ⟨k, (vs.getD k zV).bytes, !(vs.getD k zV).there⟩ else none
theorem chgL_succ {vs : List VP} {j : Nat} {v : VP} (hv : vs[j]? = some v) : chgL vs (j + 1) = if v.changed then chgL vs j ++ [⟨j, v.bytes, !v.there⟩] else chgL vs j := by
  unfold chgL
  rw [List.range_succ, List.filterMap_append]
  have hd : vs.getD j zV = v := by rw [List.getD_eq_getElem?_getD, hv, Option.getD_some]
  cases hc : v.changed
  · rw [List.filterMap_cons_none (by rw [hd, hc]; rfl), if_neg (by decide)]
    simp
  · rw [List.filterMap_cons_some (b := ⟨j, v.bytes, !v.there⟩) (by rw [hd, hc]; rfl), if_pos rfl]
    simp
theorem chgL_le (vs : List VP) (j : Nat) : (chgL vs j).length ≤ j := by
  unfold chgL
  have := List.length_filterMap_le (fun k => if (vs.getD k zV).changed then some (⟨k, (vs.getD k zV).bytes, !(vs.getD k zV).there⟩ : Chg) else none) (List.range j)
  simpa using this

set_option maxRecDepth 100000 in
set_option maxHeartbeats 1000000 in
theorem changes_ok (S : Nat) (src : Value) (ps : List Pg) (fr : Nat → List UInt8) (w : World) (h : Sp w S src ps fr) :
    Calls Try.prog 21 #[.pointer (some ⟨S, 0, none⟩)] w fun e w' => (∃ Ao c, e = .returned (.slice Ao (chgL (vps ps fr) 64).length c) ∧ OwnC w' w.heap.size (.slice Ao (chgL (vps ps fr) 64).length c) (chgL (vps ps fr) 64)) ∧ New w w' := by
  have H := Lib.hid h
  have hi82 := i82n
  clear h
  go_enter Try.func21, Try.ntmps21
  go_wp2
  go_loopw [3, 8] (fun o i wr => ∃ j : Nat, i = .int .i64 (j : Int) ∧ j ≤ 64 ∧ ∃ Ao n c, o = .slice Ao n c ∧ Hid ((chgL (vps ps fr) j).length = n ∧ OwnC wr w.heap.size (.slice Ao n c) (chgL (vps ps fr) j) ∧ New w wr)) (fun _ i _ => 64 - (intOf i).toNat)
  case atStart => exact ⟨0, rfl, by omega, none, 0, 0, rfl, rfl, OwnC.nil _ _, Mod.refl _ _⟩
  case round =>
    obtain ⟨j, rfl, hj, Ao, n, c, rfl, HC⟩ := hrel
    by_cases hlt : (j : Int) < 64
    · obtain ⟨hn, hown, hnew⟩ := HC.out
      obtain ⟨p, hp⟩ : ∃ p, ps[j]? = some p := ⟨_, List.getElem?_eq_getElem (by rw [H.out.len]; omega)⟩
      have c2 := hnew.cell (H.out.get (j := 2) hp rfl) (fun h => h)
      have c4 := hnew.cell (H.out.get (j := 4) hp rfl) (fun h => h)
      have hs := chgL_succ (vps_get (fr := fr) hp)
      have hnle : n ≤ 64 := by rw [← hn]; have := chgL_le (vps ps fr) j; omega
      have hsz := hnew.size
      have hG := fun g (hg : p.copy = some g) => H.out.frm p (List.mem_of_getElem? hp) g hg
      cases hch : p.changed with
      | true =>
        rw [hch] at c2
        rw [show (vp fr p).changed = true from hch, if_pos rfl] at hs
        cases hcp : p.copy with
        | none =>
          rw [hcp] at c4
          have hs2 : chgL (vps ps fr) (j + 1) = chgL (vps ps fr) j ++ [⟨j, [], true⟩] := by rw [hs]; simp [vp, hcp]
          have HS := Lib.hid (And.intro hn (And.intro hown (And.intro hnew hs2)))
          clear hn hown hnew hs hs2 hp hch hcp hG
          dsimp only [ptr, Option.map] at c4
          go_wp2_with (first
            | (at_builtin; refine wpList_append_c rfl _ _ rfl w.heap.size Ao n c (chgL (vps ps fr) j) rfl HS.out.1 (OwnC.mod HS.out.2.1 (S := fun _ => False) ((Mod.refl _ _).alloc _) (fun _ _ h => h)) wr.heap.size ⟨j, [], true⟩ rfl (Blk.fresh _ _ _) (by omega) (Nat.le_trans hsz ((Mod.refl (fun _ => False) _).alloc _).size) ?_; intro A3 c3 w3 hown3 hm3; have H3 := Lib.hid (And.intro hown3 hm3); clear hown3 hm3))
          refine ⟨⟨j + 1, by go_num, by omega, A3, n + 1, c3, rfl, ?_, ?_, ?_⟩, by simp [intOf]; omega⟩
          · rw [HS.out.2.2.2, List.length_append, HS.out.1]; rfl
          · rw [HS.out.2.2.2]; exact H3.out.1
          · exact (HS.out.2.2.1.alloc _).trans H3.out.2 (fun i hi hd => by have := OwnC.base HS.out.2.1 i hd; omega)
        | some g =>
          rw [hcp] at c4
          obtain ⟨hb, hl⟩ := hG g hcp
          obtain ⟨B, hB⟩ : ∃ B, fr g = B := ⟨_, rfl⟩
          rw [hB] at hb hl
          have hstr := run_str92 (hb.new hnew) hl
          have hs2 : chgL (vps ps fr) (j + 1) = chgL (vps ps fr) j ++ [⟨j, B, false⟩] := by rw [hs]; simp [vp, hcp, hB]
          have HS := Lib.hid (And.intro hn (And.intro hown (And.intro hnew hs2)))
          clear hn hown hnew hs hs2 hp hch hcp hG hb hl hB
          dsimp only [ptr, Option.map] at c4
          go_wp2_with (first
            | (at_builtin; refine wpList_append_c rfl _ _ rfl w.heap.size Ao n c (chgL (vps ps fr) j) rfl HS.out.1 (OwnC.mod HS.out.2.1 (S := fun _ => False) ((Mod.refl _ _).alloc _) (fun _ _ h => h)) wr.heap.size ⟨j, B, false⟩ rfl (Blk.fresh _ _ _) (by omega) (Nat.le_trans hsz ((Mod.refl (fun _ => False) _).alloc _).size) ?_; intro A3 c3 w3 hown3 hm3; have H3 := Lib.hid (And.intro hown3 hm3); clear hown3 hm3))
          refine ⟨⟨j + 1, by go_num, by omega, A3, n + 1, c3, rfl, ?_, ?_, ?_⟩, by simp [intOf]; omega⟩
          · rw [HS.out.2.2.2, List.length_append, HS.out.1]; rfl
          · rw [HS.out.2.2.2]; exact H3.out.1
          · exact (HS.out.2.2.1.alloc _).trans H3.out.2 (fun i hi hd => by have := OwnC.base HS.out.2.1 i hd; omega)
      | false =>
        rw [hch] at c2
        rw [show (vp fr p).changed = false from hch, if_neg (by decide)] at hs
        have HS := Lib.hid (And.intro hn (And.intro hown (And.intro hnew hs)))
        clear hn hown hnew hs hp hch hG
        go_wp2
        refine ⟨⟨j + 1, by go_num, by omega, Ao, n, c, rfl, ?_, ?_, HS.out.2.2.1⟩, by simp [intOf]; omega⟩
        · rw [HS.out.2.2.2]; exact HS.out.1
        · rw [HS.out.2.2.2]; exact HS.out.2.1
    · have hj : j = 64 := by omega
      subst hj
      go_wp2
      go_ret
      obtain ⟨hn, hown, hnew⟩ := HC.out
      subst hn
      exact ⟨⟨Ao, c, rfl, hown⟩, hnew⟩
end Go.Proofs.Ytkdlmnhkbockhaa
