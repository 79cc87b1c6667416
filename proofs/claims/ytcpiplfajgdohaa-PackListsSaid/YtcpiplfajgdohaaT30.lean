/- PackLists returns true. Conditions: those of each theorem. -/
import Derived.Test.YtcpiplfajgdohaaT29
import Derived.Test.YtcpiplfajgdohaaT22
import Derived.Deep.RegionHeld3
import Derived.Deep.CutBlock
import Derived.Deep.DeepCutAuto
namespace Go.Proofs.Ytcpiplfajgdohaa
open Go.RowKit Go.Shelf

theorem wp_append_l {o : Oper} {a : Act} {K : Act → World → Prop} {Q : Exit → Act → World → Prop} {w : World} (s x : Operand)
    (ho : o.op = .call { callee := .builtin .append, args := #[s, x], argTypes := #[49, 49] })
    (base : Nat) (A : Option Addr) (n c : Nat) (rows : List SR) (hs : a.eval s = .slice A n c) (hn : rows.length = n) (hown : OwnL w base A c rows)
    (g : Nat) (r : SR) (hx : a.eval x = .slice (some ⟨g, 0, none⟩) 1 1) (hg : Blk w g 22 #[.slice r.A r.n r.c])
    (hlen : n ≤ 1000000) (hbase : base ≤ w.heap.size)
    (h : ∀ A' c' w', OwnL w' base A' c' (rows ++ [r]) → Mod (At A) w w' → (∀ k, At A' k → At A k ∨ k = w.heap.size) → K (a.put o.dst (.slice A' (n + 1) c')) w') : o.wp Try.prog a w K Q := by
  subst hn
  refine wp_append_src w s x 49 ho base 22 (.slice none 0 0) 24 Try.underlying49 info22 rfl (.slice A rows.length c) (rows.map SR.v) hs hown (some ⟨g, 0, none⟩) 1 1 [r.v] hx
    ⟨rfl, Nat.le_refl _, fun _ => ⟨_, _, rfl, fun j u hu => by rw [Nat.zero_add]; exact hg.cell j u (by simpa [SR.v] using hu)⟩⟩ (srv_one [r]) (by rw [List.length_map]; simp only [maxLen]; omega) (by rw [List.length_map]; omega) hbase ?_
  intro v w' hown' hg' hb
  rw [show rows.map SR.v ++ [r.v] = (rows ++ [r]).map SR.v from by simp] at hown'
  obtain ⟨A', c', rfl, -, -, -, -⟩ := hown'.form
  rw [List.length_map, List.length_append] at hown' hb ⊢
  refine h A' c' w' (by unfold OwnL; rw [List.length_append]; exact hown') ((Mod.of_grown hg').mono (fun k _ hk => OwnV.blk_addr hk)) (fun k hk => ?_)
  have := OwnV.addr_blk hown' k hk
  rcases hb with hb | hb
  · rw [hb] at this; exact .inl (OwnV.blk_addr this)
  · rw [hb] at this; injection this with this; exact .inr this.symm

/-- At most a hundred bytes of each. -/
def cutR (s : SR) : SR := ⟨s.A, min s.n 100, s.c, s.xs.take (min s.n 100)⟩
theorem cutR_rd {w : World} {s : SR} (h : s.rd w) : (cutR s).rd w := RdB.takeN h (min s.n 100) (by omega)

/-- One element of the list is another now. -/
theorem OwnL.set {w : World} {base : Nat} {g c : Nat} {rs : List SR} (h : OwnL w base (some ⟨g, 0, none⟩) c rs) (j : Nat) (r : SR) : OwnL (w.setCell ⟨g, j, none⟩ r.v) base (some ⟨g, 0, none⟩) c (rs.set j r) := by
  have hl : (rs.map SR.v).length = rs.length := List.length_map _
  have h0 : w.ownsRow base 22 1 (.slice (some ⟨g, 0, none⟩) rs.length c) rs.length (rs.map SR.v) := by
    have h1 := h
    unfold OwnL OwnV at h1
    rw [hl] at h1
    exact h1
  have h1 := (h0.stored j r.v).1
  unfold OwnL OwnV
  rw [List.length_map, List.length_set, List.map_set]
  exact h1
theorem cutR_n (s : SR) : (cutR s).n ≤ 100 := Nat.min_le_right _ _
theorem packs_le {os rs : List SR} {w : World} {k : Nat} (h : ∀ s ∈ os, s.rd w ∧ s.n ≤ 100) (hk : k ≤ os.length) (hp : rs.map SR.xs = packs os k) : ∀ s ∈ rs, s.xs.length ≤ 200 := by
  intro s hs
  have h1 : s.xs ∈ packs os k := by rw [← hp]; exact List.mem_map_of_mem hs
  unfold packs at h1
  simp only [List.mem_map, List.mem_range] at h1
  obtain ⟨j, hj, he⟩ := h1
  have hg : os[j]? = some (os[j]'(by omega)) := List.getElem?_eq_getElem _
  have h2 := packB_le (prevOf os j) (xsOf os j)
  rw [he, xsOf_get hg] at h2
  have h3 := h _ (List.mem_of_getElem? hg)
  rw [h3.1.blen] at h2
  omega
theorem OwnL.addr0 {w : World} {base : Nat} {A : Option Addr} {c : Nat} {rs : List SR} (h : OwnL w base A c rs) {j : Nat} {s : SR} (hs : rs[j]? = some s) : ∃ g, A = some ⟨g, 0, none⟩ ∧ j < rs.length ∧ rs.length ≤ c ∧ w.cell? ⟨g, j, none⟩ = some (.slice s.A s.n s.c) := by
  obtain ⟨b, o, e, h1, h2, h3⟩ := (ownL_rd h).row hs
  rcases h.2 with ⟨hv, _⟩ | ⟨g, cap, cur, hv, _⟩
  · injection hv with hA; rw [e] at hA; cases hA
  · injection hv with hA
    rw [e] at hA
    injection hA with hA
    injection hA with hb ho
    subst hb ho
    rw [Nat.zero_add] at h3
    exact ⟨b, e, h1, h2, h3⟩
theorem OwnL.frozen0 {w : World} {base : Nat} {g c : Nat} {rs : List SR} (h : OwnL w base (some ⟨g, 0, none⟩) c rs) (j : Nat) : w.frozen? ⟨g, j, none⟩ = false := by
  have hl : (rs.map SR.v).length = rs.length := List.length_map _
  have h1 := h
  unfold OwnL OwnV at h1
  rw [hl] at h1
  exact World.ownsRow.frozenAt h1 j
theorem prevOf_len (os : List SR) {w : World} (h : ∀ s ∈ os, s.rd w ∧ s.n ≤ 100) : ∀ j, j ≤ os.length → (prevOf os j).length ≤ 100
  | 0, _ => Nat.zero_le _
  | j + 1, hj => by
    have hs : os[j]? = some (os[j]'(by omega)) := List.getElem?_eq_getElem _
    rw [prevOf, xsOf_get hs]
    have := h _ (List.mem_of_getElem? hs)
    rw [this.1.blen]
    exact this.2

attribute [local go_sem] min_run max_run
set_option maxRecDepth 100000 in
set_option maxHeartbeats 8000000 in
theorem packLists_ok (A : Option Addr) (n c : Nat) (rows : List SR) (x : UInt8) (A2 : Option Addr) (n2 c2 : Nat) (bs : List UInt8) (w : World) (h : RdV w A n c (rows.map SR.v)) (hr : ∀ s ∈ rows, s.rd w ∧ s.n ≤ 9223372036854775807) (hn : n ≤ 9223372036854775807)
    (h2 : RdB w A2 n2 c2 bs) (hn2 : n2 ≤ 9223372036854775807) :
    Calls Try.prog 10 #[.slice A n c, .int .u8 (x.toNat : Int), .slice A2 n2 c2] w fun e w' => e = .returned (.bool true) ∧ New w w' := by
  have hl : rows.length = n := by have := h.len; rwa [List.length_map] at this
  have H := Lib.hid (And.intro h (And.intro hr (And.intro hl h2)))
  have hx256 : (x.toNat : Int) < 256 := by have := x.toNat_lt; omega
  clear h hr hl h2
  go_enter Try.func10, Try.ntmps10
  go_upto_block 0 with fail
  go_cut [7] from 20 to 43 (fun v wc => ∃ (k : Nat) (Ao : Option Addr) (co : Nat), v = .slice Ao k co ∧ k ≤ n ∧ k ≤ 10 ∧ Hid (OwnL wc w.heap.size Ao co ((rows.take k).map cutR) ∧ ((rows.take k).map cutR).length = k ∧ New w wc))
  case rest =>
    obtain ⟨k, Ao, co, rfl, hk, hk10, HC⟩ := hcut
    have hkI : (k : Int) ≤ 10 := by omega
    obtain ⟨os, hos⟩ : ∃ os, (rows.take k).map cutR = os := ⟨_, rfl⟩
    have hosr : ∀ s ∈ os, s.rd w ∧ s.n ≤ 100 := fun s hs => by
      rw [← hos] at hs
      simp only [List.mem_map] at hs
      obtain ⟨r, hr, rfl⟩ := hs
      exact ⟨cutR_rd (H.out.2.1 r (List.mem_of_mem_take hr)).1, cutR_n r⟩
    have hown := HC.out.1
    have hol := HC.out.2.1
    rw [hos] at hown hol
    have hrv := ownL_rd hown
    rw [hol] at hrv
    have HO := Lib.hid (And.intro hrv (And.intro hosr (And.intro hol HC.out.2.2)))
    clear hos hosr hown hol hrv
    go_wp2_with (first
      | (go_at_call 22; have hpk := packList_ok Ao k co os wc HO.out.1 (fun s hs => ⟨(HO.out.2.1 s hs).1.new HO.out.2.2.2, by have := (HO.out.2.1 s hs).2; omega⟩) (by omega); with_reducible (refine hpk.mono ?_); clear hpk; rintro e w1 ⟨PA, pc, rs, rfl, hown, hrl, hrs, hpx, hnew⟩; have H1 := Lib.hid (And.intro hown (And.intro hrl (And.intro hrs (And.intro hpx hnew)))); clear hown hrl hrs hpx hnew))
    go_at_call 14
    refine (known_ok w1).mono ?_
    rintro e w2 ⟨rfl, hn2'⟩
    have H2 := Lib.hid (And.intro hn2' (HO.out.2.2.2.trans (H1.out.2.2.2.2.trans hn2' (fun _ _ h => h)) (fun _ _ h => h) : New w w2))
    clear hn2'
    go_wp2
    go_loopw [12, 11] (fun i d wr => ∃ (j : Nat) (Ad : Option Addr) (nd cd : Nat), i = .int .i64 (j : Int) ∧ d = .slice Ad nd cd ∧ j ≤ k ∧ (nd : Int) ≤ 100 ∧ Hid (RdB wr Ad nd cd (prevOf os j) ∧ New w2 wr)) (fun i _ _ => k - (intOf i).toNat)
    case atStart => exact ⟨0, none, 0, 0, rfl, rfl, by omega, by omega, RdV.nil _ _ _, Mod.refl _ _⟩
    case round =>
      obtain ⟨j, Ad, nd, cd, rfl, rfl, hj, hnd, HL⟩ := hrel
      by_cases hjk : (j : Int) < k
      · obtain ⟨so, hso⟩ : ∃ s, os[j]? = some s := ⟨os[j]'(by have := HO.out.2.2.1; omega), List.getElem?_eq_getElem _⟩
        obtain ⟨sp, hsp⟩ : ∃ s, rs[j]? = some s := ⟨rs[j]'(by have := H1.out.2.1; omega), List.getElem?_eq_getElem _⟩
        have hnw : New wc wr := (H1.out.2.2.2.2.trans H2.out.1 (fun _ _ h => h)).trans HL.out.2 (fun _ _ h => h)
        have hnw1 : New w1 wr := H2.out.1.trans HL.out.2 (fun _ _ h => h)
        obtain ⟨bo, oo, rfl, -, hkco, hco0⟩ := HO.out.1.row hso
        obtain ⟨bp, op, rfl, -, hkpc, hcp0⟩ := (ownL_rd H1.out.1).row hsp
        have hco : ∀ Z, New wr Z → Z.cell? ⟨bo, oo + j, none⟩ = some (.slice so.A so.n so.c) := fun Z hZ => (hnw.trans hZ (fun _ _ h => h)).cell hco0 (fun h => h)
        have hcp : ∀ Z, New wr Z → Z.cell? ⟨bp, op + j, none⟩ = some (.slice sp.A sp.n sp.c) := fun Z hZ => (hnw1.trans hZ (fun _ _ h => h)).cell hcp0 (fun h => h)
        have hpx : sp.xs = packB (prevOf os j) so.xs := by
          have h1 : (rs.map SR.xs)[j]? = some sp.xs := by rw [List.getElem?_map, hsp]; rfl
          rw [H1.out.2.2.2.1, packs, List.getElem?_map, List.getElem?_range (by omega), Option.map_some, xsOf_get hso] at h1
          exact (Option.some.inj h1).symm
        have hcv : ∀ Z, New wr Z → (convert 22 9 (.slice sp.A sp.n sp.c)).run Try.prog Z = .ok (.string ⟨(packB (prevOf os j) so.xs).toArray⟩) Z := fun Z hZ => by
          rw [← hpx]
          exact run_str _ ((OwnB.srd (H1.out.2.2.1 sp (List.mem_of_getElem? hsp))).new (hnw1.trans hZ (fun _ _ h => h)))
        have hsor := HO.out.2.1 so (List.mem_of_getElem? hso)
        have HR := Lib.hid (fun Z hZ => canon_bytes Ad nd cd (prevOf os j) so.A so.n so.c so.xs Z (HL.out.1.new hZ) (hsor.1.new (H2.out.2.trans (HL.out.2.trans hZ (fun _ _ h => h)) (fun _ _ h => h))) (by omega) (by have := hsor.2; omega) : ∀ Z, New wr Z → _)
        have hson : (so.n : Int) ≤ 100 := by have := hsor.2; omega
        have hjco : j < co := by omega
        have hjpc : j < pc := by have := H1.out.2.1; omega
        have HF := Lib.hid (And.intro hsor.1 hso)
        clear hsor hpx hcp0 hco0 hsp hso hnw hnw1
        go_wp2_with fail
        go_region_held (fun Z => New wr Z) (first | assumption | exact (Mod.refl _ _).drew) (first
          | (go_at_call 16; with_reducible (refine (HR.out _ (by assumption)).mono ?_); rintro e w4 ⟨A4, c4, n4, rfl, hn4, hby⟩; have hN4 : New wr w4 := Mod.trans (by assumption) hn4 (fun _ _ h => h); have H7 := Lib.hid (hby _ (Mod.refl _ _)); clear hn4 hby)
          | (go_at_call 15; with_reducible (refine H7.out.mono ?_); rintro e w5 ⟨A5, c5, rfl, hown, hn5⟩; have hs5 := run_str w5 (OwnB.rd hown); have hN5 : New wr w5 := Mod.trans (by assumption) hn5 (fun _ _ h => h); clear hn5 hown))
        have hc5 := hco _ hN5
        have H5 := Lib.hid (HL.out.2.trans hN5 (fun _ _ h => h) : New w2 w5)
        clear hco hcp hcv hs5
        go_wp2
        refine ⟨⟨j + 1, so.A, so.n, so.c, by go_num, rfl, by omega, hson, ?_, H5.out⟩, by simp [intOf]; omega⟩
        rw [prevOf, xsOf_get HF.out.2]
        exact HF.out.1.new (H2.out.2.trans H5.out (fun _ _ h => h))
      · have HW := Lib.hid (And.intro (H2.out.1.trans HL.out.2 (fun _ _ h => h) : New w1 wr) (H2.out.2.trans HL.out.2 (fun _ _ h => h) : New w wr))
        obtain ⟨W, hW⟩ : ∃ W, W = wr := ⟨_, rfl⟩
        subst hW
        have hcase : k = 0 ∨ (0 < k ∧ ¬ (x.toNat : Int) < 20) ∨ (0 < k ∧ (x.toNat : Int) < 20) := by omega
        rcases hcase with hk0 | ⟨hk0, hx20⟩ | ⟨hk0, hx20⟩
        · subst hk0
          have hz : ¬ (0 : Int) < 0 := by decide
          obtain ⟨rs2, hrs2⟩ : ∃ rs2, rs2 = rs := ⟨_, rfl⟩
          obtain ⟨W3, hW3⟩ : ∃ W3, W3 = W := ⟨_, rfl⟩
          have HP : Hid (RdV W3 PA 0 pc (rs2.map SR.v) ∧ (∀ s ∈ rs2, s.rd W3 ∧ s.n ≤ 1000) ∧ rs2.length = 0 ∧ New w W3) := by
            subst hrs2 hW3
            have hr := ownL_rd H1.out.1
            rw [H1.out.2.1] at hr
            exact ⟨hr.new HW.out.1, fun s hs => ⟨(OwnB.srd (H1.out.2.2.1 s hs)).new HW.out.1, by rw [(H1.out.2.2.1 s hs).2]; have := packs_le (fun s hs => ⟨(HO.out.2.1 s hs).1, (HO.out.2.1 s hs).2⟩) (by have := HO.out.2.2.1; omega) H1.out.2.2.2.1 s hs; omega⟩, H1.out.2.1, HW.out.2⟩
          subst hW3
          clear hrs2
          have hHP : (∀ s ∈ rs2, s.rd W3 ∧ s.n ≤ 140737488351232) := fun s hs => ⟨(HP.out.2.1 s hs).1, by have := (HP.out.2.1 s hs).2; omega⟩
          have hpk := unpackList_ok PA 0 pc rs2 1000 W3 HP.out.1 hHP (by decide) (by decide)
          rw [show ((1000 : Nat) : Int) = 1000 from rfl] at hpk
          go_wp2_with fail
          go_at_call 23
          with_reducible (refine hpk.mono ?_)
          clear hpk hHP
          rintro e w5 hU
          rcases hU with ⟨jf, hjf, hbef, hne, rfl, hn5⟩ | ⟨hall, UA, uc, crs, rfl, hcv, hcr, hcx, hn5⟩
          · exact absurd hjf (Nat.not_lt_zero _)
          · have H5 := Lib.hid (HP.out.2.2.2.trans hn5 (fun _ _ h => h) : New w w5)
            clear hn5 hall hcv hcr hcx
            go_wp2
            go_loopw [16, 11] (fun i d wr => i = .int .i64 0 ∧ d = .slice none 0 0 ∧ Hid (New w5 wr)) (fun _ _ _ => 0)
            case atStart => exact ⟨rfl, rfl, Mod.refl _ _⟩
            case round =>
              obtain ⟨rfl, rfl, HL⟩ := hrel
              go_wp2
              go_ret
              exact ⟨rfl, H5.out.trans HL.out (fun _ _ h => h)⟩
        · have hk0' : (0 : Int) < k := by omega
          obtain ⟨rs2, hrs2⟩ : ∃ rs2, rs2 = rs := ⟨_, rfl⟩
          obtain ⟨W3, hW3⟩ : ∃ W3, W3 = W := ⟨_, rfl⟩
          have HP : Hid (RdV W3 PA k pc (rs2.map SR.v) ∧ (∀ s ∈ rs2, s.rd W3 ∧ s.n ≤ 1000) ∧ rs2.length = k ∧ New w W3) := by
            subst hrs2 hW3
            have hr := ownL_rd H1.out.1
            rw [H1.out.2.1] at hr
            exact ⟨hr.new HW.out.1, fun s hs => ⟨(OwnB.srd (H1.out.2.2.1 s hs)).new HW.out.1, by rw [(H1.out.2.2.1 s hs).2]; have := packs_le (fun s hs => ⟨(HO.out.2.1 s hs).1, (HO.out.2.1 s hs).2⟩) (by have := HO.out.2.2.1; omega) H1.out.2.2.2.1 s hs; omega⟩, H1.out.2.1, HW.out.2⟩
          subst hW3
          clear hrs2
          have hHP : (∀ s ∈ rs2, s.rd W3 ∧ s.n ≤ 140737488351232) := fun s hs => ⟨(HP.out.2.1 s hs).1, by have := (HP.out.2.1 s hs).2; omega⟩
          have hpk := unpackList_ok PA k pc rs2 1000 W3 HP.out.1 hHP (by omega) (by decide)
          rw [show ((1000 : Nat) : Int) = 1000 from rfl] at hpk
          go_wp2_with fail
          go_at_call 23
          with_reducible (refine hpk.mono ?_)
          clear hpk hHP
          rintro e w5 hU
          rcases hU with ⟨jf, hjf, hbef, hne, rfl, hn5⟩ | ⟨hall, UA, uc, crs, rfl, hcv, hcr, hcx, hn5⟩
          · obtain ⟨er, her⟩ : ∃ er, uerr 1000 rs2 jf = er := ⟨_, rfl⟩
            rw [her] at hne ⊢
            have H5 := Lib.hid (And.intro hn5 (And.intro hbef her))
            have hne1 : ¬ (er : Int) = 0 := by omega
            have hne2 : decide ((er : Int) = 0) = false := by simpa using hne1
            have hne3 : ((er : Int) == 0) = false := by simpa using hne1
            have hjfI : (jf : Int) < k := by omega
            clear hn5 hbef her hne
            go_wp2
            go_loopw [16, 11] (fun i d wr => ∃ (j : Nat) (Ad : Option Addr) (nd cd : Nat), i = .int .i64 (j : Int) ∧ d = .slice Ad nd cd ∧ j ≤ jf ∧ (nd : Int) ≤ 1000 ∧ Hid (RdB wr Ad nd cd (dctOf 1000 rs2 j) ∧ New w5 wr)) (fun i _ _ => k - (intOf i).toNat)
            case atStart => exact ⟨0, none, 0, 0, rfl, rfl, by omega, by omega, RdV.nil _ _ _, Mod.refl _ _⟩
            case round =>
              obtain ⟨j, Ad, nd, cd, rfl, rfl, hjj, hnd, HL⟩ := hrel
              obtain ⟨sp, hsp⟩ : ∃ s, rs2[j]? = some s := ⟨rs2[j]'(by have := HP.out.2.2.1; omega), List.getElem?_eq_getElem _⟩
              obtain ⟨bp, op, hPA, -, hkpc, hcp0⟩ := HP.out.1.row hsp
              subst hPA
              have hN := H5.out.1.trans HL.out.2 (fun _ _ h => h)
              have hcp := hN.cell hcp0 (fun h => h)
              have hjpc : j < pc := by omega
              have hsr := HP.out.2.1 sp (List.mem_of_getElem? hsp)
              have hrdd := HL.out.1
              have hdl : (dctOf 1000 rs2 j).length = nd := hrdd.blen
              have hsl : sp.xs.length = sp.n := hsr.1.blen
              have hpk := refUnpack_ok Ad nd cd sp.A sp.n sp.c 1000 (dctOf 1000 rs2 j) sp.xs wr hrdd (hsr.1.new hN) (by decide) (by omega) (by have := hsr.2; omega)
              rw [show ((1000 : Nat) : Int) = 1000 from rfl] at hpk
              have hu : unp 1000 nd sp.n 0 sp.xs (dctOf 1000 rs2 j) = ures 1000 (dctOf 1000 rs2 j) (xsOf rs2 j) := by rw [ures, hdl, xsOf_get hsp, hsl]
              rw [hu] at hpk
              have hout : ((ures 1000 (dctOf 1000 rs2 j) (xsOf rs2 j)).1.getD (dctOf 1000 rs2 j)).drop nd = dctOf 1000 rs2 (j + 1) := by rw [dctOf, uout, hdl]
              rw [hout] at hpk
              have herr : (ures 1000 (dctOf 1000 rs2 j) (xsOf rs2 j)).2.2 = uerr 1000 rs2 j := rfl
              rw [herr] at hpk
              obtain ⟨e2, her2⟩ : ∃ e2, uerr 1000 rs2 j = e2 := ⟨_, rfl⟩
              obtain ⟨ea, hea⟩ : ∃ ea, (ures 1000 (dctOf 1000 rs2 j) (xsOf rs2 j)).2.1 = ea := ⟨_, rfl⟩
              rw [her2, hea] at hpk
              have hnl := dctOf_len 1000 rs2 (j + 1)
              clear hN hsr hrdd hdl hsl hu hout herr hea hcp0 hsp
              have hjkI : (j : Int) < k := by omega
              by_cases hjf2 : j < jf
              · have h0 := H5.out.2.1 j hjf2
                rw [her2] at h0
                subst h0
                have HE := Lib.hid (And.intro hpk (And.intro her2 hnl))
                clear hpk her2 hnl
                go_wp2_with (go_at_call 24; with_reducible (refine HE.out.1.mono ?_); rintro e w6 ⟨VA, vc, vn, rfl, hru, hfr, hnew⟩; have H6 := Lib.hid (And.intro hru (HL.out.2.trans hnew (fun _ _ h => h) : New w5 w6)); have hvn : (vn : Int) ≤ 1000 := (by have h1 := hru.blen; have h2 := HE.out.2.2; omega); clear hru hfr hnew)
                go_quiet (fail)
                go_wp2
                refine ⟨⟨j + 1, VA, vn, vc, by go_num, rfl, by omega, hvn, H6.out.1.new ((Mod.refl _ _).drewN nq), (H6.out.2.drewN nq : New w5 _)⟩, by simp [intOf]; omega⟩
              · have hjj2 : j = jf := by omega
                subst hjj2
                have h1 := H5.out.2.2
                rw [her2] at h1
                subst h1
                have HE := Lib.hid (And.intro hpk (And.intro her2 hnl))
                clear hpk her2 hnl
                go_wp2_with (go_at_call 24; with_reducible (refine HE.out.1.mono ?_); rintro e w6 ⟨VA, vc, vn, rfl, hru, hfr, hnew⟩; have H6 := Lib.hid (HL.out.2.trans hnew (fun _ _ h => h) : New w5 w6); clear hru hfr hnew)
                go_ret
                exact ⟨rfl, (HP.out.2.2.2.trans H5.out.1 (fun _ _ h => h)).trans H6.out (fun _ _ h => h)⟩
          · have H5 := Lib.hid (And.intro hn5 (And.intro hall (And.intro hcv (And.intro hcr hcx))))
            clear hn5 hall hcv hcr hcx
            go_wp2
            go_loopw [16, 11] (fun i d wr => ∃ (j : Nat) (Ad : Option Addr) (nd cd : Nat), i = .int .i64 (j : Int) ∧ d = .slice Ad nd cd ∧ j ≤ k ∧ (nd : Int) ≤ 1000 ∧ Hid (RdB wr Ad nd cd (dctOf 1000 rs2 j) ∧ New w5 wr)) (fun i _ _ => k - (intOf i).toNat)
            case atStart => exact ⟨0, none, 0, 0, rfl, rfl, by omega, by omega, RdV.nil _ _ _, Mod.refl _ _⟩
            case round =>
              obtain ⟨j, Ad, nd, cd, rfl, rfl, hjj, hnd, HL⟩ := hrel
              by_cases hjkI : (j : Int) < k
              · have hjk2 : j < k := by omega
                obtain ⟨sp, hsp⟩ : ∃ s, rs2[j]? = some s := ⟨rs2[j]'(by have := HP.out.2.2.1; omega), List.getElem?_eq_getElem _⟩
                obtain ⟨bp, op, hPA, -, hkpc, hcp0⟩ := HP.out.1.row hsp
                subst hPA
                have hN := H5.out.1.trans HL.out.2 (fun _ _ h => h)
                have hcp := hN.cell hcp0 (fun h => h)
                have hjpc : j < pc := by omega
                have hsr := HP.out.2.1 sp (List.mem_of_getElem? hsp)
                have hrdd := HL.out.1
                have hdl : (dctOf 1000 rs2 j).length = nd := hrdd.blen
                have hsl : sp.xs.length = sp.n := hsr.1.blen
                have hpk := refUnpack_ok Ad nd cd sp.A sp.n sp.c 1000 (dctOf 1000 rs2 j) sp.xs wr hrdd (hsr.1.new hN) (by decide) (by omega) (by have := hsr.2; omega)
                rw [show ((1000 : Nat) : Int) = 1000 from rfl] at hpk
                have hu : unp 1000 nd sp.n 0 sp.xs (dctOf 1000 rs2 j) = ures 1000 (dctOf 1000 rs2 j) (xsOf rs2 j) := by rw [ures, hdl, xsOf_get hsp, hsl]
                rw [hu] at hpk
                have hout : ((ures 1000 (dctOf 1000 rs2 j) (xsOf rs2 j)).1.getD (dctOf 1000 rs2 j)).drop nd = dctOf 1000 rs2 (j + 1) := by rw [dctOf, uout, hdl]
                rw [hout] at hpk
                have herr : (ures 1000 (dctOf 1000 rs2 j) (xsOf rs2 j)).2.2 = uerr 1000 rs2 j := rfl
                rw [herr] at hpk
                obtain ⟨e2, her2⟩ : ∃ e2, uerr 1000 rs2 j = e2 := ⟨_, rfl⟩
                obtain ⟨ea, hea⟩ : ∃ ea, (ures 1000 (dctOf 1000 rs2 j) (xsOf rs2 j)).2.1 = ea := ⟨_, rfl⟩
                rw [her2, hea] at hpk
                have hnl := dctOf_len 1000 rs2 (j + 1)
                clear hN hsr hrdd hdl hsl hu hout herr hea hcp0 hsp
                have h0 := H5.out.2.1 j hjk2
                rw [her2] at h0
                subst h0
                have hcl : crs.length = k := by have := H5.out.2.2.1.len; rwa [List.length_map] at this
                obtain ⟨sc, hsc⟩ : ∃ s, crs[j]? = some s := ⟨crs[j]'(by omega), List.getElem?_eq_getElem _⟩
                have hscx : sc.xs = dctOf 1000 rs2 (j + 1) := by
                  have h1 : (crs.map SR.xs)[j]? = some sc.xs := by rw [List.getElem?_map, hsc]; rfl
                  rw [H5.out.2.2.2.2, List.getElem?_map, List.getElem?_range hjk2, Option.map_some] at h1
                  exact (Option.some.inj h1).symm
                obtain ⟨bc, oc, rfl, -, hkuc, hcc0⟩ := H5.out.2.2.1.row hsc
                have hjuc : j < uc := by omega
                have hscr := H5.out.2.2.2.1 sc (List.mem_of_getElem? hsc)
                have HE := Lib.hid (And.intro hpk (And.intro her2 (And.intro hnl (And.intro hscx (And.intro hscr hcc0)))))
                clear hpk her2 hnl hcl hsc hscx hscr hcc0
                go_wp2_with (go_at_call 24; with_reducible (refine HE.out.1.mono ?_); rintro e w6 ⟨VA, vc, vn, rfl, hru, hfr, hnew⟩; have H6 := Lib.hid (And.intro hru (HL.out.2.trans hnew (fun _ _ h => h) : New w5 w6)); have hvn : (vn : Int) ≤ 1000 := (by have h1 := hru.blen; have h2 := HE.out.2.2.1; omega); clear hru hfr hnew)
                have hcc := H6.out.2.cell HE.out.2.2.2.2.2 (fun h => h)
                have hs1 : ∀ q, (convert 22 9 (.slice sc.A sc.n sc.c)).run Try.prog (w6.drewN q) = .ok (.string ⟨(dctOf 1000 rs2 (j + 1)).toArray⟩) (w6.drewN q) := fun q => by
                  rw [← HE.out.2.2.2.1]
                  exact run_str _ ((HE.out.2.2.2.2.1.new H6.out.2).new ((Mod.refl _ _).drewN q))
                have hs2 : ∀ q, (convert 22 9 (.slice VA vn vc)).run Try.prog (w6.drewN q) = .ok (.string ⟨(dctOf 1000 rs2 (j + 1)).toArray⟩) (w6.drewN q) := fun q => run_str _ (H6.out.1.new ((Mod.refl _ _).drewN q))
                go_quiet (fail)
                go_wp2
                refine ⟨⟨j + 1, VA, vn, vc, by go_num, rfl, by omega, hvn, H6.out.1.new ((Mod.refl _ _).drewN nq), (H6.out.2.drewN nq : New w5 _)⟩, by simp [intOf]; omega⟩
              · go_wp2
                go_ret
                exact ⟨rfl, (HP.out.2.2.2.trans H5.out.1 (fun _ _ h => h)).trans HL.out.2 (fun _ _ h => h)⟩
        · have hk0' : (0 : Int) < k := by omega
          obtain ⟨jx, hjx⟩ : ∃ jx, x.toNat % k = jx := ⟨_, rfl⟩
          have hjxk : jx < k := by rw [← hjx]; exact Nat.mod_lt _ hk0
          have hmod : (x.toNat : Int).tmod (k : Int) = (jx : Int) := by
            rw [Int.tmod_eq_emod_of_nonneg (by omega), ← hjx]
            exact (Int.natCast_emod _ _).symm
          have hmod2 : (x.toNat : Int) % (k : Int) = (jx : Int) := by
            rw [← hjx]
            exact (Int.natCast_emod _ _).symm
          obtain ⟨so, hso⟩ : ∃ s, rs[jx]? = some s := ⟨rs[jx]'(by have := H1.out.2.1; omega), List.getElem?_eq_getElem _⟩
          obtain ⟨gp, hPA, -, hkpc, hcp0⟩ := (OwnL.addr0 H1.out.1) hso
          subst hPA
          have hcpW := HW.out.1.cell hcp0 (fun h => h)
          have hfpW := OwnL.frozen0 (OwnV.new H1.out.1 HW.out.1) jx
          have hjpc : jx < pc := by have := H1.out.2.1; omega
          have hkne : ¬ (k : Int) = 0 := by omega
          have hjxI : (jx : Int) < k := by omega
          clear hjx hso hcp0
          go_wp2_with fail
          go_region_held (fun _ => True) (trivial) (first | (go_at_call 11; (refine (cut_any A2 n2 c2 bs _ (H.out.2.2.2.new (HW.out.2.drew)) hn2).mono ?_); rintro e w4 ⟨m4, k4, rfl, hr4, he4, rfl⟩; have H4 := Lib.hid (And.intro hr4 he4); clear hr4 he4))
          all_goals
            obtain ⟨rs2, hrs2⟩ : ∃ rs2, rs2 = rs.set jx ⟨A2, m4, k4, bs.take 400⟩ := ⟨_, rfl⟩
            obtain ⟨W3, hW3⟩ : ∃ W3, (W.setCell ⟨gp, jx, none⟩ (.slice A2 m4 k4)).drew = W3 := ⟨_, rfl⟩
            have HP : Hid (RdV W3 (some ⟨gp, 0, none⟩) k pc (rs2.map SR.v) ∧ (∀ s ∈ rs2, s.rd W3 ∧ s.n ≤ 1000) ∧ rs2.length = k ∧ New w W3) := by
              subst hrs2 hW3
              have hO := OwnV.new H1.out.1 HW.out.1
              have hset := OwnL.set hO jx ⟨A2, m4, k4, bs.take 400⟩
              have hr := ownL_rd hset
              rw [List.length_set, H1.out.2.1] at hr
              have hgb : w.heap.size ≤ gp := Nat.le_trans HO.out.2.2.2.size (OwnV.at_base H1.out.1 gp rfl).1
              obtain ⟨cs, hB⟩ := hO.at_row gp rfl
              have hM : Mod (fun k => k = gp) W (W.setCell ⟨gp, jx, none⟩ (.slice A2 m4 k4)).drew := ((Mod.refl (fun k => k = gp) W).setCell ⟨gp, jx, none⟩ _ (fun _ => rfl)).drew
              refine ⟨hr.new ((Mod.refl _ _).drew), fun s hs => ?_, by rw [List.length_set]; exact H1.out.2.1, HW.out.2.trans hM (fun i hi e => by omega)⟩
              rcases List.mem_or_eq_of_mem_set hs with hs | rfl
              · have h5 := H1.out.2.2.1 s hs
                have h6 := OwnV.new h5.1 HW.out.1
                refine ⟨OwnB.srd ⟨OwnV.keep h6 hM (fun k hk e => by subst e; exact OwnV.at_ne h6 hB (by decide) hk), h5.2⟩, ?_⟩
                rw [h5.2]
                have := packs_le (fun s hs => ⟨(HO.out.2.1 s hs).1, (HO.out.2.1 s hs).2⟩) (by have := HO.out.2.2.1; omega) H1.out.2.2.2.1 s hs
                omega
              · refine ⟨SR.keep (H4.out.1) (w := W.drew) (S := fun k => k = gp) (((Mod.refl (fun k => k = gp) W.drew).setCell ⟨gp, jx, none⟩ _ (fun _ => rfl))) (fun hn k hk e => ?_), ?_⟩
                · have h7 := SR.lt (s := ⟨A2, n2, c2, bs⟩) H.out.2.2.2 (by dsimp only; have := H4.out.2; dsimp only at hn; omega) k hk
                  omega
                · have := H4.out.2
                  dsimp only
                  omega
            rw [hW3]
            clear hrs2 hW3 hcpW hfpW
            clear H1 HW HL
            have hHP : (∀ s ∈ rs2, s.rd W3 ∧ s.n ≤ 140737488351232) := fun s hs => ⟨(HP.out.2.1 s hs).1, by have := (HP.out.2.1 s hs).2; omega⟩
            have hpk := unpackList_ok (some ⟨gp, 0, none⟩) k pc rs2 1000 W3 HP.out.1 hHP (by omega) (by decide)
            rw [show ((1000 : Nat) : Int) = 1000 from rfl] at hpk
            go_wp2_with fail
            go_at_call 23
            with_reducible (refine hpk.mono ?_)
            clear hpk hHP
            rintro e w5 hU
            rcases hU with ⟨jf, hjf, hbef, hne, rfl, hn5⟩ | ⟨hall, UA, uc, crs, rfl, hcv, hcr, hcx, hn5⟩
            · obtain ⟨er, her⟩ : ∃ er, uerr 1000 rs2 jf = er := ⟨_, rfl⟩
              rw [her] at hne ⊢
              have H5 := Lib.hid (And.intro hn5 (And.intro hbef her))
              have hne1 : ¬ (er : Int) = 0 := by omega
              have hne2 : decide ((er : Int) = 0) = false := by simpa using hne1
              have hne3 : ((er : Int) == 0) = false := by simpa using hne1
              have hjfI : (jf : Int) < k := by omega
              clear hn5 hbef her hne
              go_wp2
              go_loopw [16, 11] (fun i d wr => ∃ (j : Nat) (Ad : Option Addr) (nd cd : Nat), i = .int .i64 (j : Int) ∧ d = .slice Ad nd cd ∧ j ≤ jf ∧ (nd : Int) ≤ 1000 ∧ Hid (RdB wr Ad nd cd (dctOf 1000 rs2 j) ∧ New w5 wr)) (fun i _ _ => k - (intOf i).toNat)
              case atStart => exact ⟨0, none, 0, 0, rfl, rfl, by omega, by omega, RdV.nil _ _ _, Mod.refl _ _⟩
              case round =>
                obtain ⟨j, Ad, nd, cd, rfl, rfl, hjj, hnd, HL⟩ := hrel
                obtain ⟨sp, hsp⟩ : ∃ s, rs2[j]? = some s := ⟨rs2[j]'(by have := HP.out.2.2.1; omega), List.getElem?_eq_getElem _⟩
                obtain ⟨bp, op, hPA, -, hkpc, hcp0⟩ := HP.out.1.row hsp
                injection hPA with hPA
                injection hPA with hb1 ho1
                subst hb1 ho1
                rw [Nat.zero_add] at hcp0
                have hN := H5.out.1.trans HL.out.2 (fun _ _ h => h)
                have hcp := hN.cell hcp0 (fun h => h)
                have hjpc : j < pc := by omega
                have hsr := HP.out.2.1 sp (List.mem_of_getElem? hsp)
                have hrdd := HL.out.1
                have hdl : (dctOf 1000 rs2 j).length = nd := hrdd.blen
                have hsl : sp.xs.length = sp.n := hsr.1.blen
                have hpk := refUnpack_ok Ad nd cd sp.A sp.n sp.c 1000 (dctOf 1000 rs2 j) sp.xs wr hrdd (hsr.1.new hN) (by decide) (by omega) (by have := hsr.2; omega)
                rw [show ((1000 : Nat) : Int) = 1000 from rfl] at hpk
                have hu : unp 1000 nd sp.n 0 sp.xs (dctOf 1000 rs2 j) = ures 1000 (dctOf 1000 rs2 j) (xsOf rs2 j) := by rw [ures, hdl, xsOf_get hsp, hsl]
                rw [hu] at hpk
                have hout : ((ures 1000 (dctOf 1000 rs2 j) (xsOf rs2 j)).1.getD (dctOf 1000 rs2 j)).drop nd = dctOf 1000 rs2 (j + 1) := by rw [dctOf, uout, hdl]
                rw [hout] at hpk
                have herr : (ures 1000 (dctOf 1000 rs2 j) (xsOf rs2 j)).2.2 = uerr 1000 rs2 j := rfl
                rw [herr] at hpk
                obtain ⟨e2, her2⟩ : ∃ e2, uerr 1000 rs2 j = e2 := ⟨_, rfl⟩
                obtain ⟨ea, hea⟩ : ∃ ea, (ures 1000 (dctOf 1000 rs2 j) (xsOf rs2 j)).2.1 = ea := ⟨_, rfl⟩
                rw [her2, hea] at hpk
                have hnl := dctOf_len 1000 rs2 (j + 1)
                clear hN hsr hrdd hdl hsl hu hout herr hea hcp0 hsp
                have hjkI : (j : Int) < k := by omega
                by_cases hjf2 : j < jf
                · have h0 := H5.out.2.1 j hjf2
                  rw [her2] at h0
                  subst h0
                  have HE := Lib.hid (And.intro hpk (And.intro her2 hnl))
                  clear hpk her2 hnl
                  go_wp2_with (go_at_call 24; with_reducible (refine HE.out.1.mono ?_); rintro e w6 ⟨VA, vc, vn, rfl, hru, hfr, hnew⟩; have H6 := Lib.hid (And.intro hru (HL.out.2.trans hnew (fun _ _ h => h) : New w5 w6)); have hvn : (vn : Int) ≤ 1000 := (by have h1 := hru.blen; have h2 := HE.out.2.2; omega); clear hru hfr hnew)
                  go_quiet (fail)
                  go_wp2
                  refine ⟨⟨j + 1, VA, vn, vc, by go_num, rfl, by omega, hvn, H6.out.1.new ((Mod.refl _ _).drewN nq), (H6.out.2.drewN nq : New w5 _)⟩, by simp [intOf]; omega⟩
                · have hjj2 : j = jf := by omega
                  subst hjj2
                  have h1 := H5.out.2.2
                  rw [her2] at h1
                  subst h1
                  have HE := Lib.hid (And.intro hpk (And.intro her2 hnl))
                  clear hpk her2 hnl
                  go_wp2_with (go_at_call 24; with_reducible (refine HE.out.1.mono ?_); rintro e w6 ⟨VA, vc, vn, rfl, hru, hfr, hnew⟩; have H6 := Lib.hid (HL.out.2.trans hnew (fun _ _ h => h) : New w5 w6); clear hru hfr hnew)
                  go_ret
                  exact ⟨rfl, (HP.out.2.2.2.trans H5.out.1 (fun _ _ h => h)).trans H6.out (fun _ _ h => h)⟩
            · have H5 := Lib.hid (And.intro hn5 (And.intro hall (And.intro hcv (And.intro hcr hcx))))
              clear hn5 hall hcv hcr hcx
              go_wp2
              go_loopw [16, 11] (fun i d wr => ∃ (j : Nat) (Ad : Option Addr) (nd cd : Nat), i = .int .i64 (j : Int) ∧ d = .slice Ad nd cd ∧ j ≤ k ∧ (nd : Int) ≤ 1000 ∧ Hid (RdB wr Ad nd cd (dctOf 1000 rs2 j) ∧ New w5 wr)) (fun i _ _ => k - (intOf i).toNat)
              case atStart => exact ⟨0, none, 0, 0, rfl, rfl, by omega, by omega, RdV.nil _ _ _, Mod.refl _ _⟩
              case round =>
                obtain ⟨j, Ad, nd, cd, rfl, rfl, hjj, hnd, HL⟩ := hrel
                by_cases hjkI : (j : Int) < k
                · have hjk2 : j < k := by omega
                  obtain ⟨sp, hsp⟩ : ∃ s, rs2[j]? = some s := ⟨rs2[j]'(by have := HP.out.2.2.1; omega), List.getElem?_eq_getElem _⟩
                  obtain ⟨bp, op, hPA, -, hkpc, hcp0⟩ := HP.out.1.row hsp
                  injection hPA with hPA
                  injection hPA with hb1 ho1
                  subst hb1 ho1
                  rw [Nat.zero_add] at hcp0
                  have hN := H5.out.1.trans HL.out.2 (fun _ _ h => h)
                  have hcp := hN.cell hcp0 (fun h => h)
                  have hjpc : j < pc := by omega
                  have hsr := HP.out.2.1 sp (List.mem_of_getElem? hsp)
                  have hrdd := HL.out.1
                  have hdl : (dctOf 1000 rs2 j).length = nd := hrdd.blen
                  have hsl : sp.xs.length = sp.n := hsr.1.blen
                  have hpk := refUnpack_ok Ad nd cd sp.A sp.n sp.c 1000 (dctOf 1000 rs2 j) sp.xs wr hrdd (hsr.1.new hN) (by decide) (by omega) (by have := hsr.2; omega)
                  rw [show ((1000 : Nat) : Int) = 1000 from rfl] at hpk
                  have hu : unp 1000 nd sp.n 0 sp.xs (dctOf 1000 rs2 j) = ures 1000 (dctOf 1000 rs2 j) (xsOf rs2 j) := by rw [ures, hdl, xsOf_get hsp, hsl]
                  rw [hu] at hpk
                  have hout : ((ures 1000 (dctOf 1000 rs2 j) (xsOf rs2 j)).1.getD (dctOf 1000 rs2 j)).drop nd = dctOf 1000 rs2 (j + 1) := by rw [dctOf, uout, hdl]
                  rw [hout] at hpk
                  have herr : (ures 1000 (dctOf 1000 rs2 j) (xsOf rs2 j)).2.2 = uerr 1000 rs2 j := rfl
                  rw [herr] at hpk
                  obtain ⟨e2, her2⟩ : ∃ e2, uerr 1000 rs2 j = e2 := ⟨_, rfl⟩
                  obtain ⟨ea, hea⟩ : ∃ ea, (ures 1000 (dctOf 1000 rs2 j) (xsOf rs2 j)).2.1 = ea := ⟨_, rfl⟩
                  rw [her2, hea] at hpk
                  have hnl := dctOf_len 1000 rs2 (j + 1)
                  clear hN hsr hrdd hdl hsl hu hout herr hea hcp0 hsp
                  have h0 := H5.out.2.1 j hjk2
                  rw [her2] at h0
                  subst h0
                  have hcl : crs.length = k := by have := H5.out.2.2.1.len; rwa [List.length_map] at this
                  obtain ⟨sc, hsc⟩ : ∃ s, crs[j]? = some s := ⟨crs[j]'(by omega), List.getElem?_eq_getElem _⟩
                  have hscx : sc.xs = dctOf 1000 rs2 (j + 1) := by
                    have h1 : (crs.map SR.xs)[j]? = some sc.xs := by rw [List.getElem?_map, hsc]; rfl
                    rw [H5.out.2.2.2.2, List.getElem?_map, List.getElem?_range hjk2, Option.map_some] at h1
                    exact (Option.some.inj h1).symm
                  obtain ⟨bc, oc, rfl, -, hkuc, hcc0⟩ := H5.out.2.2.1.row hsc
                  have hjuc : j < uc := by omega
                  have hscr := H5.out.2.2.2.1 sc (List.mem_of_getElem? hsc)
                  have HE := Lib.hid (And.intro hpk (And.intro her2 (And.intro hnl (And.intro hscx (And.intro hscr hcc0)))))
                  clear hpk her2 hnl hcl hsc hscx hscr hcc0
                  go_wp2_with (go_at_call 24; with_reducible (refine HE.out.1.mono ?_); rintro e w6 ⟨VA, vc, vn, rfl, hru, hfr, hnew⟩; have H6 := Lib.hid (And.intro hru (HL.out.2.trans hnew (fun _ _ h => h) : New w5 w6)); have hvn : (vn : Int) ≤ 1000 := (by have h1 := hru.blen; have h2 := HE.out.2.2.1; omega); clear hru hfr hnew)
                  have hcc := H6.out.2.cell HE.out.2.2.2.2.2 (fun h => h)
                  have hs1 : ∀ q, (convert 22 9 (.slice sc.A sc.n sc.c)).run Try.prog (w6.drewN q) = .ok (.string ⟨(dctOf 1000 rs2 (j + 1)).toArray⟩) (w6.drewN q) := fun q => by
                    rw [← HE.out.2.2.2.1]
                    exact run_str _ ((HE.out.2.2.2.2.1.new H6.out.2).new ((Mod.refl _ _).drewN q))
                  have hs2 : ∀ q, (convert 22 9 (.slice VA vn vc)).run Try.prog (w6.drewN q) = .ok (.string ⟨(dctOf 1000 rs2 (j + 1)).toArray⟩) (w6.drewN q) := fun q => run_str _ (H6.out.1.new ((Mod.refl _ _).drewN q))
                  go_quiet (fail)
                  go_wp2
                  refine ⟨⟨j + 1, VA, vn, vc, by go_num, rfl, by omega, hvn, H6.out.1.new ((Mod.refl _ _).drewN nq), (H6.out.2.drewN nq : New w5 _)⟩, by simp [intOf]; omega⟩
                · go_wp2
                  go_ret
                  exact ⟨rfl, (HP.out.2.2.2.trans H5.out.1 (fun _ _ h => h)).trans HL.out.2 (fun _ _ h => h)⟩
  case first =>
  go_wp2_with fail
  go_loopw [8, 7] (fun i o wr => ∃ (k : Nat) (Ao : Option Addr) (co : Nat), i = .int .i64 (k : Int) ∧ o = .slice Ao k co ∧ k ≤ n ∧ k ≤ 10 ∧ Hid (OwnL wr w.heap.size Ao co ((rows.take k).map cutR) ∧ ((rows.take k).map cutR).length = k ∧ New w wr)) (fun i _ _ => 10 - (intOf i).toNat)
  case atStart => exact ⟨0, none, 0, rfl, rfl, by omega, by omega, OwnV.nil _ _ _, rfl, Mod.refl _ _⟩
  case round =>
    obtain ⟨k, Ao, co, rfl, rfl, hk, hk10, HC⟩ := hrel
    have hkI : (k : Int) ≤ 10 := by omega
    by_cases hin : (k : Int) < n ∧ (k : Int) < 10
    · obtain ⟨hin1, hin2⟩ := hin
      obtain ⟨s, hs⟩ : ∃ s, rows[k]? = some s := ⟨rows[k]'(by have := H.out.2.2.1; omega), List.getElem?_eq_getElem _⟩
      obtain ⟨b, o, rfl, -, hnc, hcell0⟩ := H.out.1.row hs
      have hcell := HC.out.2.2.cell hcell0 (fun h => h)
      have hsr := H.out.2.1 s (List.mem_of_getElem? hs)
      have hkc : k < c := by omega
      have hb : b < w.heap.size := World.block_lt_of_cell? w _ hcell0
      obtain ⟨m, hm⟩ : ∃ m, m = min s.n 100 := ⟨_, rfl⟩
      have hif : (if (100 : Int) < (s.n : Int) then 100 else (s.n : Int)) = (m : Int) := by split <;> omega
      have hmn : (m : Int) ≤ s.n := by omega
      have hmc : m ≤ s.c := by have := hsr.1.cap; omega
      have htk : (rows.take (k + 1)).map cutR = (rows.take k).map cutR ++ [cutR s] := by rw [List.take_add_one, hs, List.map_append]; rfl
      have HS := Lib.hid (And.intro hsr (And.intro hm (And.intro htk hb)))
      have hN1 : New wr (wr.alloc (.cells #[.slice s.A m s.c] 22)).drew := ((Mod.refl _ _).alloc _).drew
      have hcell2 := hN1.cell hcell (fun h => h)
      have HN := Lib.hid (And.intro hN1 ((Blk.fresh wr 22 #[.slice s.A m s.c]).new ((Mod.refl _ _).drew)))
      clear hsr hm htk hb hcell0 hs hN1
      go_wp2_with fail
      go_region_held3 (fun Z => Z.cell? ⟨b, o + k, none⟩ = some (.slice s.A s.n s.c)) (first | assumption | (simp [*]; done)) (first | (refine wp_append_l _ _ rfl w.heap.size Ao k co ((rows.take k).map cutR) rfl HC.out.2.1 (OwnV.new HC.out.1 HN.out.1) wr.heap.size ⟨s.A, m, s.c, (cutR s).xs⟩ rfl HN.out.2 (by omega) (by have := HC.out.2.2.size; have := HN.out.1.size; omega) ?_; intro A6 c6 w6 hown hm6 hbk; have hcell6 : w6.cell? ⟨b, o + k, none⟩ = some (.slice s.A s.n s.c) := (hm6.cell hcell2 (fun ha => by have := (OwnV.at_base HC.out.1 b ha).1; have := HS.out.2.2.2; omega)); have H6 := Lib.hid (And.intro hown ((HC.out.2.2.trans HN.out.1 (fun _ _ h => h)).trans hm6 (fun i hi ha => by have := (OwnV.at_base HC.out.1 i ha).1; omega) : New w w6)); clear hown hm6 hbk))
      clear hcell6
      go_wp2
      refine ⟨⟨k + 1, A6, c6, by go_num, rfl, by omega, by omega, ?_, ?_, H6.out.2⟩, by simp [intOf]; omega⟩
      · have h1 := H6.out.1
        rw [HS.out.2.2.1]
        rw [show (⟨s.A, m, s.c, (cutR s).xs⟩ : SR) = cutR s from by rw [HS.out.2.1]; rfl] at h1
        exact h1
      · rw [HS.out.2.2.1, List.length_append, HC.out.2.1]; rfl
    · rcases (show ((k : Int) < n ∧ ¬ (k : Int) < 10) ∨ ¬ (k : Int) < n from by omega) with ⟨hc1, hc2⟩ | hc1
      · clear hin
        go_wp2_with fail
        go_meet
        case rel => exact ⟨k, Ao, co, rfl, hk, hk10, HC.out⟩
      · clear hin
        go_wp2_with fail
        go_meet
        case rel => exact ⟨k, Ao, co, rfl, hk, hk10, HC.out⟩
end Go.Proofs.Ytcpiplfajgdohaa
