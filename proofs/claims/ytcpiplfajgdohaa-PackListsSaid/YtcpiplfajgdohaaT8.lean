/- match writes what waits and a match, as matB tells. Conditions: those of each theorem. -/
import Derived.Test.YtcpiplfajgdohaaT7
namespace Go.Proofs.Ytcpiplfajgdohaa
open Go.RowKit Go.Shelf

/-- The packed form of a match. -/
def matB (d l : Nat) : List UInt8 := [UInt8.ofNat (l + 124), UInt8.ofNat ((d - 1) / 256), UInt8.ofNat (d - 1)]

theorem rd_three (w : World) (x y z : UInt8) : RdB (w.alloc (.cells #[.int .u8 (x.toNat : Int), .int .u8 (y.toNat : Int), .int .u8 (z.toNat : Int)] 5)) (some ⟨w.heap.size, 0, none⟩) 3 3 [x, y, z] :=
  ⟨rfl, Nat.le_refl _, fun _ => ⟨_, _, rfl, fun j u hu => by
    have := (Blk.fresh w 5 #[.int .u8 (x.toNat : Int), .int .u8 (y.toNat : Int), .int .u8 (z.toNat : Int)]).cell (0 + j) u
    rw [Nat.zero_add] at this ⊢
    exact this (by simpa [bts, B8] using hu)⟩⟩

theorem rd_mat (w : World) (d l : Nat) (hd : 1 ≤ (d : Int)) (hd2 : (d : Int) ≤ 4096) (hl2 : (l : Int) ≤ 131) :
    RdB (w.alloc (.cells #[.int .u8 (128 + (l : Int) - 4), .int .u8 (((d : Int) - 1) / 256), .int .u8 (((d : Int) - 1) % 256)] 5)) (some ⟨w.heap.size, 0, none⟩) 3 3 (matB d l) := by
  have h := rd_three w (UInt8.ofNat (l + 124)) (UInt8.ofNat ((d - 1) / 256)) (UInt8.ofNat (d - 1))
  have e1 : ((UInt8.ofNat (l + 124)).toNat : Int) = 128 + (l : Int) - 4 := by rw [UInt8.toNat_ofNat']; omega
  have e2 : ((UInt8.ofNat ((d - 1) / 256)).toNat : Int) = ((d : Int) - 1) / 256 := by rw [UInt8.toNat_ofNat']; omega
  have e3 : ((UInt8.ofNat (d - 1)).toNat : Int) = ((d : Int) - 1) % 256 := by rw [UInt8.toNat_ofNat']; omega
  rw [e1, e2, e3] at h
  exact h

theorem litsB_bound (ws : List UInt8) (hl : ws.length ≤ 3000000) : (flushB ws).length ≤ 5000000 := by
  have := litsB_length ws (cks ((ws.length + 127) / 128))
  rw [cks_length] at this
  unfold flushB
  omega

set_option maxRecDepth 100000 in
set_option maxHeartbeats 1000000 in
theorem match_any (base g : Nat) (Ao : Option Addr) (co : Nat) (Aw : Option Addr) (cw : Nat) (out wait : List UInt8) (d l : Nat) (w : World) (h : Wr w base g Ao co Aw cw out wait) (hb : base ≤ w.heap.size) (hl : wait.length ≤ 3000000) (hlo : out.length ≤ 20000000)
    (hd : 1 ≤ (d : Int)) (hd2 : (d : Int) ≤ 4096) (hl1 : 4 ≤ (l : Int)) (hl2 : (l : Int) ≤ 131) :
    Calls Try.prog 28 #[.pointer (some ⟨g, 0, none⟩), .int .i64 d, .int .i64 l] w fun e w' => e = .returned (.tuple #[]) ∧ ∃ Ao' co', Wr w' base g Ao' co' Aw cw (out ++ flushB wait ++ matB d l) [] ∧ Mod (fun k => k = g ∨ At Ao k) w w' ∧ (∀ k, At Ao' k → At Ao k ∨ w.heap.size ≤ k) := by
  have hgb := h.blk.lt
  have H := Lib.hid h
  have hfl := litsB_bound wait hl
  go_enter Try.func28, Try.ntmps28
  go_wp2_with (first | (go_at_call 29; go_must (refine (flush_any base g Ao co Aw cw out wait w H.out hb hl (by omega)).mono ?_; rintro e w1 ⟨rfl, Ao1, co1, hw1, hm1, hk1⟩; have hc0 := hw1.blk.cell 0 _ rfl; have H1 := Lib.hid (And.intro hw1 (And.intro hm1 hk1)); have HN := Lib.hid ((Mod.refl (fun _ => False) w1).alloc (.cells #[.int .u8 (128 + (l : Int) - 4), .int .u8 (((d : Int) - 1) / 256), .int .u8 (((d : Int) - 1) % 256)] 5)); have HB := Lib.hid (show base ≤ (w1.alloc (.cells #[.int .u8 (128 + (l : Int) - 4), .int .u8 (((d : Int) - 1) / 256), .int .u8 (((d : Int) - 1) % 256)] 5)).heap.size from Nat.le_trans hb (Nat.le_trans hm1.size HN.out.size)); clear hw1 hm1 hk1)) | (at_builtin; go_must (refine append_n rfl _ _ rfl base Ao1 _ co1 (out ++ flushB wait) rfl (List.length_append) (OwnV.new H1.out.1.own HN.out) _ 3 3 _ rfl (rd_mat w1 d l hd hd2 hl2) ?ha HB.out ?_; (case ha => omega); intro A3 c3 w3 hown hm hbk; have hB := (H1.out.1.blk.new HN.out).mod hm (OwnV.at_ne (OwnV.new H1.out.1.own HN.out) (H1.out.1.blk.new HN.out) (by decide)); have hd0 := hB.cell 0 _ rfl; have hf0 := hB.frozen 0; have H3 := Lib.hid (And.intro hown (And.intro hm (And.intro hbk hB))); clear hown hm hbk hB)))
  go_end0
  obtain ⟨h31, h32, h33, h34⟩ := H3.out
  obtain ⟨h11, h12, h13⟩ := H1.out
  have hk : ∀ k, At A3 k → At Ao1 k ∨ w1.heap.size ≤ k := fun k hk => (h33 k hk).imp id (fun e => by rw [World.size_alloc] at e; omega)
  have h4 := h11.store_out HN.out (h32.mono (fun _ _ h => .inl h)) h31 hk
  rw [show (out ++ flushB wait ++ matB d l).length = out.length + (flushB wait).length + 3 from by rw [List.length_append, List.length_append]; rfl] at h4
  refine ⟨rfl, A3, c3, h4.1, h12.trans h4.2 (fun k hk e => ?_), fun k hk' => ?_⟩
  · rcases e with e | e
    · exact .inl e
    · rcases h13 k e with h | h
      · exact .inr h
      · omega
  · rcases hk k hk' with h | h
    · exact h13 k h
    · exact .inr (Nat.le_trans h12.size h)
end Go.Proofs.Ytcpiplfajgdohaa
