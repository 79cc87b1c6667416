/- literal lets one more byte wait. Conditions: those of each theorem. -/
import Derived.Test.YtcpiplfajgdohaaT4
namespace Go.Proofs.Ytcpiplfajgdohaa
open Go.RowKit

/-- The writer at block g: what is written, what waits; both rows are of the call's own and apart. -/
structure Wr (w : World) (base g : Nat) (Ao : Option Addr) (co : Nat) (Aw : Option Addr) (cw : Nat) (out wait : List UInt8) : Prop where
  blk : Blk w g 63 #[.slice Ao out.length co, .slice Aw wait.length cw]
  own : OwnB w base Ao co out
  ownw : OwnB w base Aw cw wait
  apart : ∀ k, At Ao k → ¬ At Aw k

theorem OwnV.cutTo {w : World} {base : Nat} {e : TypeId} {A : Option Addr} {n c : Nat} {vs : List Value} (h : OwnV w base e (.slice A n c) vs) : OwnV w base e (.slice A 0 c) [] := by
  refine ⟨by simp, ?_⟩
  rcases h.2 with ⟨hv, hn⟩ | ⟨g, cap, cur, hv, hb, hg, hnc, hcm, hcs, htake⟩
  · injection hv with h1 h2 h3
    subst h1 h3
    exact .inl ⟨rfl, rfl⟩
  · injection hv with h1 h2 h3
    subst h1 h3
    exact .inr ⟨g, c, cur, rfl, hb, hg, Nat.zero_le _, hcm, hcs, by simp⟩

/-- The waiting bytes are another row now. -/
theorem Wr.store_wait {w w1 w3 : World} {base g : Nat} {Ao : Option Addr} {co : Nat} {Aw : Option Addr} {cw : Nat} {out wait : List UInt8} (h : Wr w base g Ao co Aw cw out wait) (h1 : New w w1) (hm : Mod (At Aw) w1 w3)
    {A3 : Option Addr} {c3 : Nat} {ws : List UInt8} (hown : OwnB w3 base A3 c3 ws) (hbk : ∀ k, At A3 k → At Aw k ∨ w.heap.size ≤ k) :
    Wr (w3.setCell ⟨g, 1, none⟩ (.slice A3 ws.length c3)) base g Ao co A3 c3 out ws ∧ Mod (fun k => k = g ∨ At Aw k) w (w3.setCell ⟨g, 1, none⟩ (.slice A3 ws.length c3)) := by
  have hb1 := h.blk.new h1
  have how1 := OwnV.new h.ownw h1
  have hb3 := hb1.mod hm (OwnV.at_ne how1 hb1 (by decide))
  have ho3 := OwnV.keep (OwnV.new h.own h1) hm h.apart
  have hs : Mod (fun k => k = g) w3 (w3.setCell ⟨g, 1, none⟩ (.slice A3 ws.length c3)) := (Mod.refl (fun k => k = g) w3).setCell ⟨g, 1, none⟩ _ (fun _ => rfl)
  refine ⟨⟨?_, ?_, ?_, ?_⟩, ?_⟩
  · exact hb3.put 1 _
  · exact OwnV.keep ho3 hs (fun k hk e => by subst e; exact OwnV.at_ne ho3 hb3 (by decide) hk)
  · exact OwnV.keep hown hs (fun k hk e => by subst e; exact OwnV.at_ne hown hb3 (by decide) hk)
  · intro k hk hk3
    rcases hbk k hk3 with h4 | h4
    · exact h.apart k hk h4
    · have := (OwnV.at_base h.own k hk).2; omega
  · exact (h1.new.trans hm (fun i _ hi => .inr hi)).trans hs (fun i _ hi => .inl hi)

/-- The written bytes are another row now. -/
theorem Wr.store_out {w w1 w3 : World} {base g : Nat} {Ao : Option Addr} {co : Nat} {Aw : Option Addr} {cw : Nat} {out wait : List UInt8} (h : Wr w base g Ao co Aw cw out wait) (h1 : New w w1) (hm : Mod (fun k => At Ao k ∨ w.heap.size ≤ k) w1 w3)
    {A3 : Option Addr} {c3 : Nat} {os : List UInt8} (hown : OwnB w3 base A3 c3 os) (hbk : ∀ k, At A3 k → At Ao k ∨ w.heap.size ≤ k) :
    Wr (w3.setCell ⟨g, 0, none⟩ (.slice A3 os.length c3)) base g A3 c3 Aw cw os wait ∧ Mod (fun k => k = g ∨ At Ao k) w (w3.setCell ⟨g, 0, none⟩ (.slice A3 os.length c3)) := by
  have hb1 := h.blk.new h1
  have how1 := OwnV.new h.own h1
  have hb3 := hb1.mod hm (fun e => by rcases e with e | e; exact OwnV.at_ne how1 hb1 (by decide) e; have := h.blk.lt; omega)
  have ho3 := OwnV.keep (OwnV.new h.ownw h1) hm (fun k hk e => by rcases e with e | e; exact h.apart k e hk; have := (OwnV.at_base h.ownw k hk).2; omega)
  have hs : Mod (fun k => k = g) w3 (w3.setCell ⟨g, 0, none⟩ (.slice A3 os.length c3)) := (Mod.refl (fun k => k = g) w3).setCell ⟨g, 0, none⟩ _ (fun _ => rfl)
  refine ⟨⟨?_, ?_, ?_, ?_⟩, ?_⟩
  · exact hb3.put 0 _
  · exact OwnV.keep hown hs (fun k hk e => by subst e; exact OwnV.at_ne hown hb3 (by decide) hk)
  · exact OwnV.keep ho3 hs (fun k hk e => by subst e; exact OwnV.at_ne ho3 hb3 (by decide) hk)
  · intro k hk3 hk
    rcases hbk k hk3 with h4 | h4
    · exact h.apart k h4 hk
    · have := (OwnV.at_base h.ownw k hk).2; omega
  · refine (h1.new.trans hm (fun i hi e => ?_)).trans hs (fun i _ hi => .inl hi)
    rcases e with e | e
    · exact .inr e
    · omega

set_option maxRecDepth 100000 in
set_option maxHeartbeats 400000 in
theorem literal_any (base g : Nat) (Ao : Option Addr) (co : Nat) (Aw : Option Addr) (cw : Nat) (out wait : List UInt8) (b : UInt8) (w : World) (h : Wr w base g Ao co Aw cw out wait) (hb : base ≤ w.heap.size) (hl : wait.length ≤ 3000000) :
    Calls Try.prog 27 #[.pointer (some ⟨g, 0, none⟩), .int .u8 (b.toNat : Int)] w fun e w' => e = .returned (.tuple #[]) ∧ ∃ Aw' cw', Wr w' base g Ao co Aw' cw' out (wait ++ [b]) ∧ Mod (fun k => k = g ∨ At Aw k) w w' ∧ (∀ k, At Aw' k → At Aw k ∨ w.heap.size ≤ k) := by
  have hc1 := h.blk.cell 1 _ rfl
  have hm0 : New w (w.alloc (.cells #[.int .u8 (b.toNat : Int)] 5)) := (Mod.refl _ _).alloc _
  have hgb := h.blk.lt
  have H := Lib.hid h
  have Hm0 := Lib.hid hm0
  clear h hm0
  go_enter Try.func27, Try.ntmps27
  go_wp2_with (at_builtin; go_must (refine append_b rfl _ _ rfl base Aw cw wait rfl (OwnV.new H.out.ownw Hm0.out) _ 1 1 _ rfl (rd_one w b) ?ha ?hb ?_; (case ha => omega); (case hb => rw [World.size_alloc]; omega); intro A3 c3 w3 hown hm hbk; have hB := (H.out.blk.new Hm0.out).mod hm (OwnV.at_ne (OwnV.new H.out.ownw Hm0.out) (H.out.blk.new Hm0.out) (by decide)); have hd1 := hB.cell 1 _ rfl; have hf1 := hB.frozen 1; have H3 := Lib.hid (And.intro hown (And.intro hm (And.intro hbk hB))); clear hown hm hbk hB))
  go_end0
  obtain ⟨h31, h32, h33, h34⟩ := H3.out
  have hk : ∀ k, At A3 k → At Aw k ∨ w.heap.size ≤ k := fun k hk => (h33 k hk).imp id (fun e => by rw [World.size_alloc] at e; omega)
  have h4 := H.out.store_wait Hm0.out h32 h31 hk
  rw [List.length_append] at h4
  exact ⟨rfl, A3, c3, h4.1, h4.2, hk⟩
end Go.Proofs.Ytcpiplfajgdohaa
