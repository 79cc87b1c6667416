/- SpaceFaults: the walk. Conditions: those of each theorem. -/
import Derived.Test.YtkdlmnhkbockhaaU5
import Derived.Test.YtkdlmnhkbockhaaE5
namespace Go.Proofs.Ytkdlmnhkbockhaa
open Go.RowKit Go.Maps

/-- All pages are known. -/
def Kn (s : VS) : Prop := ∀ (k : Nat) v, s.1[k]? = some v → v.known = true
theorem rch_id (A : Ask) {s : VS} (h : Kn s) : ∀ f p b, (rch A f p b s).2 = s
  | 0, _, _ => rfl
  | f + 1, p, b => by
    unfold rch
    split
    · cases hv : s.1[p]? with
      | none => rfl
      | some v =>
        dsimp only
        rw [needV_id A p (h p v hv), needL_id A p (h p v hv), set_same hv]
        split
        · exact rch_id A h f (p + 1) b
        · rfl
    · rfl
theorem reach_id (A : Ask) {s : VS} (h : Kn s) (at_ n : Int) : (reachP A at_ n s).2 = s := by
  unfold reachP
  split
  · rfl
  · split
    · rfl
    · exact rch_id A h _ _ _
theorem store_id (A : Ask) {s : VS} (h : Kn s) (at_ : Int) (bs : List UInt8) : (storeP A at_ bs s).1 ≠ 0 → (storeP A at_ bs s).2 = s := by
  unfold storeP
  split
  · intro h; exact absurd rfl h
  · intro _; exact reach_id A h _ _
theorem map_id (A : Ask) {s : VS} (h : Kn s) (p : Int) (bs : List UInt8) : (mapP A p bs s).1 ≠ 0 → (mapP A p bs s).2 = s := by
  unfold mapP
  split
  · intro _; rfl
  · split
    · intro _; rfl
    · split
      · intro _; exact needS_id A _ (h _)
      · intro h; exact absurd rfl h
theorem unmap_id (A : Ask) {s : VS} (h : Kn s) (p : Int) : (unmapP A p s).1 ≠ 0 → (unmapP A p s).2 = s := by
  unfold unmapP
  split
  · intro _; rfl
  · split
    · intro h; exact absurd rfl h
    · intro _; exact needS_id A _ (h _)

/-- A space and its child, right after the fork, but for what a call on the space has changed, if it has. -/
def InvF (w0 : World) (S C : Nat) (r : Nat) (w : World) : Prop :=
  ∃ xs xc, Ms w0 w [xs, xc] ∧ xs.S = S ∧ xc.S = C ∧ NeedOk xs.A ∧ NeedOk xc.A ∧ (r ≠ 0 → Kn xs.st ∧ Kn xc.st ∧ eqV xs.st.1 xc.st.1 = true ∧ ∀ v ∈ xs.st.1, v.changed = false)
theorem fork_f {w0 w : World} {am pm cm n : Nat} {F : Int → Option (List UInt8)} {x : Spc} (h : Ms w0 w [x]) (hA : x.A = getA am pm cm F n) (hst : x.st = z0) :
    Calls Try.prog 14 #[.pointer (some ⟨x.S, 0, none⟩)] w fun e w' => ∃ C, e = .returned (.pointer (some ⟨C, 0, none⟩)) ∧ InvF w0 x.S C 1 w' := by
  refine (fork_ms h (i := 0) rfl (needOk_of (.inl hA))).mono ?_
  rintro e w' ⟨he, x', h1, h2, h3, h4, h5⟩
  rw [hst, hA] at h4
  have hsh := fork_sh (C := w.heap.size) (has_getA (am := am) (pm := pm) (cm := cm) (F := F) (n := n)) h4 h5
  refine ⟨_, he, x', _, h1, h3, rfl, needOk_of (.inl (h2.trans hA)), noAsk_need, fun _ => ⟨hsh.s.known (h1.m.ok 0 x' rfl), hsh.c.known (h1.m.ok 1 _ rfl), hsh.equal, fun v hv => ?_⟩⟩
  obtain ⟨k, hk⟩ := List.mem_iff_getElem?.1 hv
  have hk64 : k < 64 := by
    have h6 := (List.getElem?_eq_some_iff.1 hk).1
    have h7 : x'.st.1.length = x'.ps.length := by show (vps x'.ps x'.fr).length = _; rw [vps, List.length_map]
    have h8 := (h1.m.ok 0 x' rfl).sp.len
    omega
  rw [h4, forkN_get, if_pos hk64, z0, List.getElem?_replicate, if_pos hk64] at hk
  cases hk
  dsimp only
  unfold needV
  rw [if_neg (by decide), if_pos has_getA]
  cases (getA am pm cm F n).ct k <;> rfl
/-- A call on the space that may fail. -/
theorem InvF.call {w0 w : World} {S C f : Nat} {args : Array Value} (h : InvF w0 S C 1 w) (g : Ask → VS → Nat × VS) (hid : ∀ A s, Kn s → (g A s).1 ≠ 0 → (g A s).2 = s)
    (hc : ∀ (A : Ask) ps fr log, NeedOk A → Spi A w S ps fr log → Calls Try.prog f args w fun e w' => e = .returned (.int .i64 ((g A (vps ps fr, log)).1 : Nat)) ∧ After A w w' S ps fr (g A (vps ps fr, log)).2) :
    ∃ r : Nat, Calls Try.prog f args w fun e w' => e = .returned (.int .i64 (r : Int)) ∧ InvF w0 S C r w' := by
  obtain ⟨xs, xc, hms, e1, e2, e3, e4, hk⟩ := h
  obtain ⟨k1, k2, k3, k4⟩ := hk (by decide)
  refine ⟨(g xs.A xs.st).1, ?_⟩
  have := hms.call (i := 0) (x := xs) rfl fun hs => by
    have := hc xs.A xs.ps xs.fr xs.log e3 (by rw [← e1]; exact hs)
    rw [← e1] at this
    exact this
  refine this.mono ?_
  rintro e w' ⟨he, x', h1, h2, h3, h4, -⟩
  refine ⟨he, x', xc, h1, h3.trans e1, e2, by rw [h2]; exact e3, e4, fun hr => ?_⟩
  have h5 : x'.st = xs.st := h4.trans (hid xs.A xs.st k1 hr)
  rw [h5]
  exact ⟨k1, k2, k3, k4⟩
theorem InvF.equal {w0 w : World} {S C r : Nat} (h : InvF w0 S C r w) (hr : r ≠ 0) :
    Calls Try.prog 17 #[.pointer (some ⟨S, 0, none⟩), .pointer (some ⟨C, 0, none⟩)] w fun e w' => e = .returned (.bool true) ∧ InvF w0 S C r w' := by
  obtain ⟨xs, xc, hms, e1, e2, e3, e4, hk⟩ := h
  obtain ⟨k1, k2, k3, k4⟩ := hk hr
  have he := equal_ok hms (i := 0) (j := 1) rfl rfl (by decide) e3 e4
  rw [e1, e2, pagesN_id _ k1, pagesN_id _ k2, k3] at he
  refine he.mono ?_
  rintro e w' ⟨h1, x', y', h2, h3, h4, h5, h6, h7, h8⟩
  exact ⟨h1, x', y', h2, h4, h7, by rw [h3]; exact e3, by rw [h6]; exact e4, fun _ => by rw [h5, h8]; exact ⟨k1, k2, k3, k4⟩⟩
theorem InvF.base {w0 w : World} {S C r : Nat} (h : InvF w0 S C r w) : New w0 w := by
  obtain ⟨xs, xc, hms, -⟩ := h
  exact hms.new
theorem chgL_nil {vs : List VP} (h : ∀ v ∈ vs, v.changed = false) (j : Nat) : chgL vs j = [] := by
  unfold chgL
  rw [List.filterMap_eq_nil_iff]
  intro k _
  rw [List.getD_eq_getElem?_getD]
  cases hv : vs[k]? with
  | none => rfl
  | some v => rw [Option.getD_some, h v (List.mem_of_getElem? hv)]; rfl
theorem InvF.changes {w0 w : World} {S C r : Nat} (h : InvF w0 S C r w) (hr : r ≠ 0) :
    Calls Try.prog 21 #[.pointer (some ⟨S, 0, none⟩)] w fun e w' => ∃ Ao c, e = .returned (.slice Ao 0 c) ∧ New w0 w' := by
  obtain ⟨xs, xc, hms, e1, e2, e3, e4, hk⟩ := h
  obtain ⟨k1, k2, k3, k4⟩ := hk hr
  have hc := changes_ok xs.S xs.A.src xs.ps xs.fr w (hms.m.ok 0 xs rfl).sp
  have hnil : chgL (vps xs.ps xs.fr) 64 = [] := chgL_nil k4 64
  rw [e1, hnil] at hc
  refine hc.mono ?_
  rintro e w' ⟨⟨Ao, c, he, -⟩, hn⟩
  exact ⟨Ao, c, he, hms.new.trans hn fun _ _ h => h⟩
end Go.Proofs.Ytkdlmnhkbockhaa
