/- PackList and UnpackList. Conditions: those of each theorem. -/
import Derived.Test.YtcpiplfajgdohaaR1
import Derived.Test.YtcpiplfajgdohaaT27
import Derived.Test.YtcpiplfajgdohaaT23
namespace Go.Proofs.Ytcpiplfajgdohaa
open Go.RowKit Go.Shelf

theorem srv_one (rows : List SR) : ∀ u ∈ rows.map SR.v, u.oneCell' = true := by
  intro u hu
  simp only [List.mem_map] at hu
  obtain ⟨s, _, rfl⟩ := hu
  rfl
/-- A row of slices of the call's own. -/
abbrev OwnL (w : World) (base : Nat) (A : Option Addr) (c : Nat) (rows : List SR) : Prop := OwnV w base 22 (.slice A rows.length c) (rows.map SR.v)
theorem ownL_rd {w : World} {base : Nat} {A : Option Addr} {c : Nat} {rows : List SR} (h : OwnL w base A c rows) : RdV w A rows.length c (rows.map SR.v) := OwnV.rd h
theorem RdV.row {w : World} {A : Option Addr} {n c : Nat} {rows : List SR} (h : RdV w A n c (rows.map SR.v)) {j : Nat} {s : SR} (hs : rows[j]? = some s) : ∃ b o, A = some ⟨b, o, none⟩ ∧ j < n ∧ n ≤ c ∧ w.cell? ⟨b, o + j, none⟩ = some (.slice s.A s.n s.c) := by
  have hj : j < rows.length := (List.getElem?_eq_some_iff.1 hs).1
  have hl := h.len
  rw [List.length_map] at hl
  obtain ⟨b, o, e, hc⟩ := h.cells (by omega)
  exact ⟨b, o, e, by omega, h.cap, hc j _ (by rw [List.getElem?_map, hs]; rfl)⟩

theorem wpList_append_l {ops : Array Oper} {rest : List Oper} {o : Oper} {a : Act} {Q : Exit → Act → World → Prop} {w : World} (hgd : o.guard = none) (s x : Operand)
    (ho : o.op = .call { callee := .builtin .append, args := #[s, x], argTypes := #[49, 49] })
    (base : Nat) (A : Option Addr) (n c : Nat) (rows : List SR) (hs : a.eval s = .slice A n c) (hn : rows.length = n) (hown : OwnL w base A c rows)
    (g : Nat) (r : SR) (hx : a.eval x = .slice (some ⟨g, 0, none⟩) 1 1) (hg : Blk w g 22 #[.slice r.A r.n r.c])
    (hlen : n ≤ 1000000) (hbase : base ≤ w.heap.size)
    (h : ∀ A' c' w', OwnL w' base A' c' (rows ++ [r]) → Mod (At A) w w' → (∀ k, At A' k → At A k ∨ k = w.heap.size) → wpList Try.prog ops Q rest (a.put o.dst (.slice A' (n + 1) c')) w') : wpList Try.prog ops Q (o :: rest) a w := by
  subst hn
  refine wpList_append_src w hgd s x 49 ho base 22 (.slice none 0 0) 24 Try.underlying49 info22 rfl (.slice A rows.length c) (rows.map SR.v) hs hown (some ⟨g, 0, none⟩) 1 1 [r.v] hx
    ⟨rfl, Nat.le_refl _, fun _ => ⟨_, _, rfl, fun j u hu => by rw [Nat.zero_add]; exact hg.cell j u (by simpa [SR.v] using hu)⟩⟩ (srv_one [r]) (by rw [List.length_map]; simp only [maxLen]; omega) (by rw [List.length_map]; omega) hbase ?_
  intro v w' hown' hg' hb
  rw [show rows.map SR.v ++ [r.v] = (rows ++ [r]).map SR.v from by simp] at hown'
  obtain ⟨A', c', rfl, -, -, -, -⟩ := hown'.form
  rw [List.length_map, List.length_append] at hown' hb ⊢
  refine h A' c' w' (by unfold OwnL; rw [List.length_append]; exact hown') ((Mod.of_grown hg').mono (fun k _ hk => OwnV.blk_addr hk)) (fun k hk => ?_)
  have := OwnV.addr_blk hown' k hk
  rcases hb with hb | hb
  · rw [hb] at this; exact .inl (OwnV.blk_addr this)
  · rw [hb] at this; injection this with this; exact .inr this.symm

/-- The bytes of element j; those of the one before. -/
def xsOf (rows : List SR) (j : Nat) : List UInt8 := (rows.getD j ⟨none, 0, 0, []⟩).xs
def prevOf (rows : List SR) : Nat → List UInt8
  | 0 => []
  | j + 1 => xsOf rows j
/-- What PackList writes. -/
def packs (rows : List SR) (k : Nat) : List (List UInt8) := (List.range k).map fun j => packB (prevOf rows j) (xsOf rows j)
theorem packs_succ (rows : List SR) (k : Nat) : packs rows (k + 1) = packs rows k ++ [packB (prevOf rows k) (xsOf rows k)] := by simp [packs, List.range_succ]
theorem xsOf_get {rows : List SR} {j : Nat} {s : SR} (h : rows[j]? = some s) : xsOf rows j = s.xs := by simp [xsOf, List.getD_eq_getElem?_getD, h]

theorem OwnB.srd {w : World} {base : Nat} {s : SR} (h : OwnB w base s.A s.c s.xs ∧ s.n = s.xs.length) : s.rd w := by
  have h2 := OwnB.rd h.1
  rw [← h.2] at h2
  exact h2
theorem OwnV.at_row22 {w : World} {base : Nat} {A : Option Addr} {c : Nat} {rows : List SR} (h : OwnL w base A c rows) : ∀ k, At A k → base ≤ k ∧ ∃ cs, Blk w k 22 cs := fun k hk => ⟨(OwnV.at_base h k hk).1, h.at_row k hk⟩

set_option maxRecDepth 100000 in
set_option maxHeartbeats 1000000 in
theorem packList_ok (A : Option Addr) (n c : Nat) (rows : List SR) (w : World) (h : RdV w A n c (rows.map SR.v)) (hr : ∀ s ∈ rows, s.rd w ∧ s.n ≤ 1048576) (hn : (n : Int) ≤ 1000000) :
    Calls Try.prog 22 #[.slice A n c] w fun e w' => ∃ A' c' rs, e = .returned (.tuple #[.slice A' n c', .int .i64 0]) ∧ OwnL w' w.heap.size A' c' rs ∧ rs.length = n ∧ (∀ s ∈ rs, OwnB w' w.heap.size s.A s.c s.xs ∧ s.n = s.xs.length) ∧ rs.map SR.xs = packs rows n ∧ New w w' := by
  have hl : rows.length = n := by have := h.len; rwa [List.length_map] at this
  have H := Lib.hid (And.intro h (And.intro hr hl))
  clear h hr hl
  go_enter Try.func22, Try.ntmps22
  go_wp2
  go_loopw [12, 4, 5] (fun i o d wr => ∃ (k : Nat) (Ao : Option Addr) (co : Nat) (rs : List SR) (Ad : Option Addr) (nd cd : Nat), i = .int .i64 (k : Int) ∧ o = .slice Ao k co ∧ d = .slice Ad nd cd ∧ k ≤ n ∧ (nd : Int) ≤ 1048576 ∧
      Hid (OwnL wr w.heap.size Ao co rs ∧ rs.length = k ∧ (∀ s ∈ rs, OwnB wr w.heap.size s.A s.c s.xs ∧ s.n = s.xs.length) ∧ rs.map SR.xs = packs rows k ∧ RdB w Ad nd cd (prevOf rows k) ∧ New w wr)) (fun i _ _ _ => n - (intOf i).toNat)
  case atStart => exact ⟨0, none, 0, [], none, 0, 0, rfl, rfl, rfl, by omega, by omega, OwnV.nil _ _ _, rfl, by simp, rfl, RdV.nil _ _ _, Mod.refl _ _⟩
  case round =>
    obtain ⟨k, Ao, co, rs, Ad, nd, cd, rfl, rfl, rfl, hk, hnd, HC⟩ := hrel
    by_cases hlt : (k : Int) < n
    · obtain ⟨s, hs⟩ : ∃ s, rows[k]? = some s := ⟨rows[k]'(by have := H.out.2.2; omega), List.getElem?_eq_getElem _⟩
      obtain ⟨b, o, rfl, -, hnc, hcell⟩ := H.out.1.row hs
      have hcell2 := HC.out.2.2.2.2.2.cell hcell (fun h => h)
      have hmem := List.mem_of_getElem? hs
      have hsr := H.out.2.1 s hmem
      have hkc : k < c := by omega
      have hpk := packWith_ok Ad nd cd (prevOf rows k) s.A s.n s.c s.xs wr (HC.out.2.2.2.2.1.new HC.out.2.2.2.2.2) (hsr.1.new HC.out.2.2.2.2.2) hnd (by omega)
      have Hp := Lib.hid (And.intro hpk (And.intro hs hsr))
      have hsn : (s.n : Int) ≤ 1048576 := by omega
      clear hpk hs hsr hcell hmem
      go_wp2_with (first
        | (go_at_call 12; with_reducible (refine Hp.out.1.mono ?_); rintro e w1 ⟨PA, pc, rfl, hown, hnew⟩; obtain ⟨pn, hpn⟩ : ∃ pn, (packB (prevOf rows k) s.xs).length = pn := ⟨_, rfl⟩; rw [hpn]; have H5 := Lib.hid (And.intro hown (And.intro hnew hpn)); clear hown hnew hpn)
        | (at_builtin; refine wpList_append_l rfl _ _ rfl w.heap.size Ao k co rs rfl HC.out.2.1 (OwnV.new (OwnV.new HC.out.1 H5.out.2.1) ((Mod.refl _ _).alloc _)) w1.heap.size ⟨PA, pn, pc, packB (prevOf rows k) s.xs⟩ rfl (Blk.fresh w1 22 _) ?ha ?hb ?_; (case ha => omega); (case hb => rw [World.size_alloc]; have := HC.out.2.2.2.2.2.size; have := H5.out.2.1.size; omega); intro A6 c6 w6 hown hm hbk; have H6 := Lib.hid (And.intro hown (And.intro hm hbk)); clear hown hm hbk))
      have hN1 : New wr (w1.alloc (.cells #[.slice PA pn pc] 22)) := H5.out.2.1.alloc _
      have far : ∀ {B : Option Addr} {m d : Nat} {vs : List Value} {base : Nat}, OwnV (w1.alloc (.cells #[.slice PA pn pc] 22)) base 5 (.slice B m d) vs → ∀ i, At B i → ¬ At Ao i := fun {B m d vs base} hv i hi ho => by
        obtain ⟨_, cs, hB⟩ := OwnV.at_row22 (OwnV.new HC.out.1 hN1) i ho
        exact OwnV.at_ne hv hB (by decide) hi
      have hown5 : OwnB (w1.alloc (.cells #[.slice PA pn pc] 22)) w.heap.size PA pc (packB (prevOf rows k) s.xs) := OwnV.lower (OwnV.new H5.out.1 ((Mod.refl _ _).alloc _)) HC.out.2.2.2.2.2.size
      refine ⟨⟨k + 1, A6, c6, rs ++ [⟨PA, pn, pc, packB (prevOf rows k) s.xs⟩], s.A, s.n, s.c, by go_num, rfl, rfl, by omega, by omega, H6.out.1, by rw [List.length_append, HC.out.2.1]; rfl, fun r hr => ?_, ?_, ?_, ?_⟩, by simp [intOf]; omega⟩
      · rcases List.mem_append.1 hr with hr | hr
        · have h1 := HC.out.2.2.1 r hr
          have h2 := OwnV.new h1.1 hN1
          exact ⟨OwnV.keep h2 H6.out.2.1 (far h2), h1.2⟩
        · simp only [List.mem_cons, List.not_mem_nil, or_false] at hr
          subst hr
          exact ⟨OwnV.keep hown5 H6.out.2.1 (far hown5), H5.out.2.2.symm⟩
      · rw [List.map_append, HC.out.2.2.2.1, packs_succ, xsOf_get Hp.out.2.1]
        rfl
      · rw [prevOf, xsOf_get Hp.out.2.1]
        exact Hp.out.2.2.1
      · exact (HC.out.2.2.2.2.2.trans hN1 (fun _ _ h => h)).trans H6.out.2.1 (fun i hi hk' => by have := (OwnV.at_base HC.out.1 i hk').1; omega)
    · have hkn : k = n := by omega
      subst hkn
      go_wp2
      go_ret2
      exact ⟨Ao, co, rfl, rs, HC.out.1, HC.out.2.1, HC.out.2.2.1, HC.out.2.2.2.1, HC.out.2.2.2.2.2⟩
end Go.Proofs.Ytcpiplfajgdohaa
