/- flush writes what waits, as flushB tells. Conditions: those of each theorem. -/
import Derived.Test.YtcpiplfajgdohaaT6
import Derived.Test.YtcpiplfajgdohaaB1
import Derived.Deep.RegionHeld3
import Derived.StillTailTactics
namespace Go.Proofs.Ytcpiplfajgdohaa
open Go.RowKit Go.Shelf
attribute [local go_sem] Oper.semAt_some min_run max_run

/-- The value of the chunk that begins at i. -/
def encC (A : Option Addr) (L i : Nat) : Array Value := #[.slice (A.map fun ad => ⟨ad.block, ad.off + i, none⟩) (min 128 (L - i)) (min 128 (L - i))]

theorem drewN_grown (W : World) (k : Nat) : W.grownBy (W.drewN k) none := ⟨rfl, rfl, rfl, Nat.le_refl _, fun _ _ _ => rfl⟩

theorem chunk_stops (Bs Bn : Nat) (A : Option Addr) (L c : Nat) (hA : 0 < L → ∃ b o, A = some ⟨b, o, none⟩) (hL : (L : Int) ≤ 100000000) (hLc : L ≤ c) (w : World) (hBs : Blk w Bs 22 #[.slice A L c]) (hBn : Blk w Bn 3 #[.int .i64 128]) :
    SeqStopsK Fence.wide 8 Try.prog 40 #[.pointer (some ⟨Bs, 0, none⟩), .pointer (some ⟨Bn, 0, none⟩)] (fun x : { x : Nat // x < L } => encC A L x.1) (fun W W' => W'.heap[Bs]? = W.heap[Bs]? ∧ W'.heap[Bn]? = W.heap[Bn]?)
      (fun ys => ys.map (·.1) = cks ((L + 127) / 128)) (fun _ => True) ((L + 127) / 128) w := fun l J Jx W hW hJ hJx hY h0 => by
  refine (chunk1_in l Bs Bn A L c hA hL hLc (encC A L) (fun b o i e => by subst e; rfl) (fun pre W => ∃ pre' : List { x : Nat // x < L }, pre'.map (·.1) = pre ∧ J pre' W) (fun pre W => ∃ pre' : List { x : Nat // x < L }, pre'.map (·.1) = pre ∧ Jx pre' W)
    (fun s W k ⟨s', e, hs⟩ => ⟨s', e, hJ s' W _ none hs (drewN_grown W k) (fun r e => by cases e)⟩) ?_ W ((hW.block Bs hBs.lt).trans hBs) ((hW.block Bn hBn.lt).trans hBn) ⟨[], rfl, h0⟩).mono ?_
  · rintro _ x W1 ⟨pre', rfl, hp⟩ hlen hx
    obtain ⟨fn, tmps, assign, body, hy, hR⟩ := hY pre' ⟨x, hx⟩ W1 hp (by simpa using hlen)
    refine ⟨fn, tmps, assign, body, hy, hR.mono ?_⟩
    rintro e W' (⟨rfl, h1, h2⟩ | ⟨rfl, h1⟩)
    · exact .inl ⟨rfl, ⟨_, by simp, h1⟩, h2⟩
    · exact .inr ⟨rfl, ⟨_, by simp, h1⟩⟩
  · rintro e W' ⟨he, ⟨ys, rfl, pre', h1, h2⟩ | ⟨pre, _, pre', h1, h2⟩⟩
    · exact ⟨he, .inl ⟨pre', h1, h2⟩⟩
    · exact ⟨he, .inr ⟨pre', trivial, h2⟩⟩

/-- What is no row of cells lies from B on: a step there leaves rows of cells alone. -/
theorem Blk.own {w w' : World} {g : Nat} {t : TypeId} {cs : Array Value} {row : Option Nat} (h : Blk w g t cs) (hg : w.grownBy w' row) (hr : ∀ r, row = some r → ∃ o : Obj, w.heap[r]? = some o ∧ o.isCells = false) : Blk w' g t cs :=
  (hg.block g h.lt (fun e => by
    obtain ⟨o, ho, hc⟩ := hr g e.symm
    unfold Blk at h
    rw [h] at ho
    injection ho with ho
    subst ho
    simp [Obj.isCells] at hc)).trans h
theorem OwnV.own {w w' : World} {base : Nat} {e : TypeId} {v : Value} {vs : List Value} {row : Option Nat} (h : OwnV w base e v vs) (hg : w.grownBy w' row) (hr : ∀ r, row = some r → ∃ o : Obj, w.heap[r]? = some o ∧ o.isCells = false) : OwnV w' base e v vs := by
  refine ⟨h.1, ?_⟩
  rcases h.2 with hn | ⟨g, cap, cur, rfl, hb, hgg, rest⟩
  · exact .inl hn
  · exact .inr ⟨g, cap, cur, rfl, hb, Blk.own hgg hg hr, rest⟩
theorem Wr.own_ {w w' : World} {base g : Nat} {Ao : Option Addr} {co : Nat} {Aw : Option Addr} {cw : Nat} {out wait : List UInt8} {row : Option Nat} (h : Wr w base g Ao co Aw cw out wait) (hg : w.grownBy w' row) (hr : ∀ r, row = some r → ∃ o : Obj, w.heap[r]? = some o ∧ o.isCells = false) :
    Wr w' base g Ao co Aw cw out wait := ⟨h.blk.own hg hr, OwnV.own h.own hg hr, OwnV.own h.ownw hg hr, h.apart⟩

/-- The packed form of the chunk that begins at i. -/
def chunk1 (ws : List UInt8) (i : Nat) : List UInt8 := UInt8.ofNat (min 128 (ws.length - i) - 1) :: (ws.drop i).take 128
/-- .. of the first j chunks. -/
def litsB (ws : List UInt8) (pre : List Nat) : List UInt8 := pre.flatMap (chunk1 ws)
/-- .. of all. -/
def flushB (ws : List UInt8) : List UInt8 := litsB ws (cks ((ws.length + 127) / 128))

theorem litsB_length (ws : List UInt8) (pre : List Nat) : (litsB ws pre).length ≤ 129 * pre.length := by
  induction pre with
  | nil => simp [litsB]
  | cons x pre ih =>
    unfold litsB at ih ⊢
    rw [List.flatMap_cons, List.length_append, List.length_cons]
    have : (chunk1 ws x).length ≤ 129 := by unfold chunk1; rw [List.length_cons, List.length_take]; omega
    omega

/-- What is known before the first append. -/
theorem flush_pre {W : World} {base g B : Nat} {Ao : Option Addr} {co : Nat} {Aw : Option Addr} {cw : Nat} {os wait : List UInt8} {x m : Nat} {y : UInt8} {w : World} (h1 : Wr W base g Ao co Aw cw os wait) (h4 : Blk W B 82 #[.pointer (some ⟨g, 0, none⟩)]) (hx : x < wait.length) (hm : m = min 128 (wait.length - x))
    (hb : base ≤ w.heap.size) (hs : w.heap.size ≤ W.heap.size) :
    OwnB (W.drew.alloc (.cells #[.int .u8 (y.toNat : Int)] 5)) base Ao co os ∧ Blk (W.drew.alloc (.cells #[.int .u8 (y.toNat : Int)] 5)) B 82 #[.pointer (some ⟨g, 0, none⟩)] ∧ Blk (W.drew.alloc (.cells #[.int .u8 (y.toNat : Int)] 5)) g 63 #[.slice Ao os.length co, .slice Aw wait.length cw] ∧
    RdB (W.drew.alloc (.cells #[.int .u8 (y.toNat : Int)] 5)) (Aw.map fun ad => ⟨ad.block, ad.off + x, none⟩) m m ((wait.drop x).take 128) ∧ RdB (W.drew.alloc (.cells #[.int .u8 (y.toNat : Int)] 5)) (some ⟨W.heap.size, 0, none⟩) 1 1 [y] ∧ New W (W.drew.alloc (.cells #[.int .u8 (y.toNat : Int)] 5)) ∧ base ≤ (W.drew.alloc (.cells #[.int .u8 (y.toNat : Int)] 5)).heap.size := by
  have hN : New W (W.drew.alloc (.cells #[.int .u8 (y.toNat : Int)] 5)) := (Mod.refl _ W).drew.alloc _
  refine ⟨OwnV.new h1.own hN, h4.new hN, h1.blk.new hN, ?_, rd_one W.drew y, hN, by rw [World.size_alloc]; have : W.drew.heap.size = W.heap.size := rfl; omega⟩
  have hr := (OwnB.rd h1.ownw).new hN
  obtain ⟨b, o, rfl⟩ := hr.addr (by omega)
  have hc := hr.cut x (x + m) m (by omega) (by omega) (by omega)
  rw [show x + m - x = m from by omega] at hc
  rw [Option.map_some]
  have e : (wait.drop x).take 128 = (wait.take (x + m)).drop x := by
    rw [List.drop_take, show x + m - x = m from by omega, hm]
    rw [show min 128 (wait.length - x) = min 128 (wait.drop x).length from by rw [List.length_drop]]
    rcases Nat.le_total 128 (wait.drop x).length with h | h
    · rw [Nat.min_eq_left h]
    · rw [Nat.min_eq_right h, List.take_of_length_le h, List.take_of_length_le (Nat.le_refl _)]
  rw [e]
  simpa [RdB, bts, List.map_take, List.map_drop] using hc

theorem flush_mid {W W1 w3 : World} {base g B : Nat} {Ao : Option Addr} {co : Nat} {Aw : Option Addr} {cw : Nat} {os wait : List UInt8} {x m : Nat} {ys ch : List UInt8} {A3 : Option Addr} {c3 : Nat} {P1 P2 : Prop} (h1 : Wr W base g Ao co Aw cw os wait)
    (hA : OwnB W1 base Ao co os ∧ Blk W1 B 82 #[.pointer (some ⟨g, 0, none⟩)] ∧ Blk W1 g 63 #[.slice Ao os.length co, .slice Aw wait.length cw] ∧ RdB W1 (Aw.map fun ad => ⟨ad.block, ad.off + x, none⟩) m m ch ∧ P1 ∧ P2 ∧ base ≤ W1.heap.size)
    (_ : OwnB w3 base A3 c3 ys) (hm : Mod (At Ao) W1 w3) :
    Mod (At Ao) W1 w3 ∧ Blk w3 B 82 #[.pointer (some ⟨g, 0, none⟩)] ∧ Blk w3 g 63 #[.slice Ao os.length co, .slice Aw wait.length cw] ∧ RdB w3 (Aw.map fun ad => ⟨ad.block, ad.off + x, none⟩) m m ch ∧ base ≤ w3.heap.size := by
  obtain ⟨a1, a2, a3, a4, -, -, a7⟩ := hA
  refine ⟨hm, a2.mod hm (OwnV.at_ne a1 a2 (by decide)), a3.mod hm (OwnV.at_ne a1 a3 (by decide)), a4.mod hm ?_, Nat.le_trans a7 hm.size⟩
  intro ad had hat
  refine h1.apart _ hat ?_
  rcases Aw with _ | aw
  · cases had
  · injection had with had
    subst had
    rfl

theorem flush_mid2 {w3 w4 : World} {base g B : Nat} {Ao : Option Addr} {co : Nat} {Aw : Option Addr} {cw : Nat} {os wait : List UInt8} {m : Nat} {ys ys' : List UInt8} {A3 A4 : Option Addr} {c3 c4 : Nat} {P1 P2 P3 : Prop}
    (h3 : P1 ∧ Blk w3 B 82 #[.pointer (some ⟨g, 0, none⟩)] ∧ Blk w3 g 63 #[.slice Ao os.length co, .slice Aw wait.length cw] ∧ P2 ∧ P3)
    (hown3 : OwnB w3 base A3 c3 ys) (_ : OwnB w4 base A4 c4 ys') (hm : Mod (At A3) w3 w4) :
    Blk w4 B 82 #[.pointer (some ⟨g, 0, none⟩)] ∧ Blk w4 g 63 #[.slice Ao os.length co, .slice Aw wait.length cw] :=
  ⟨h3.2.1.mod hm (OwnV.at_ne hown3 h3.2.1 (by decide)), h3.2.2.1.mod hm (OwnV.at_ne hown3 h3.2.2.1 (by decide))⟩

theorem keeps_of_mod {S : Nat → Prop} {B : Nat} {W W' : World} (hm : Mod S W W') (hS : ∀ k, S k → ∃ t cs, Blk W k t cs) : KeepsFrom B W W' :=
  ⟨hm.size, fun k o _ ho hc => by
    refine (hm.block k (Array.getElem?_eq_some_iff.1 ho).1 (fun hs => ?_)).trans ho
    obtain ⟨t, cs, hb⟩ := hS k hs
    unfold Blk at hb
    rw [ho] at hb
    injection hb with hb
    subst hb
    simp [Obj.isCells] at hc⟩
theorem OwnV.at_blk {w : World} {base : Nat} {e : TypeId} {A : Option Addr} {n c : Nat} {vs : List Value} (h : OwnV w base e (.slice A n c) vs) : ∀ k, At A k → ∃ t cs, Blk w k t cs := by
  intro k hk
  rcases h.2 with ⟨hv, _⟩ | ⟨g', cap, cur, hv, _, hh, _⟩
  · injection hv with h1
    subst h1
    simp [At] at hk
  · injection hv with h1
    subst h1
    have : g' = k := by simpa [At] using hk
    subst this
    exact ⟨e, cur, hh⟩

theorem flush_end {w W W0 W1 w3 w4 : World} {base g : Nat} {Ao Ao' : Option Addr} {co' : Nat} {Aw : Option Addr} {cw : Nat} {out os wait : List UInt8} {pre : List { x : Nat // x < wait.length }} {x m : Nat} {hx : x < wait.length} {A3 A4 : Option Addr} {c4 : Nat}
    (hos : out ++ litsB wait (pre.map (·.1)) = os) (hm : m = min 128 (wait.length - x)) (hsz : W0.heap.size = w.heap.size + 3)
    (hI : Wr W base g Ao' co' Aw cw os wait ∧ Mod (fun k => k = g ∨ At Ao k) w W ∧ (∀ k, At Ao' k → At Ao k ∨ w.heap.size + 3 ≤ k) ∧ Blk W w.heap.size 82 #[.pointer (some ⟨g, 0, none⟩)] ∧ Blk W (w.heap.size + 1) 22 #[.slice Aw wait.length cw] ∧ Blk W (w.heap.size + 1 + 1) 3 #[.int .i64 128] ∧ W0.heap.size ≤ W.heap.size)
    (hN1 : New W W1)
    (hmm : Mod (At Ao') W1 w3 ∧ (∀ k, At A3 k → At Ao' k ∨ k = W1.heap.size) ∧ OwnB w4 base A4 c4 (os ++ [UInt8.ofNat (m - 1)] ++ (wait.drop x).take 128) ∧ Mod (At A3) w3 w4 ∧ (∀ k, At A4 k → At A3 k ∨ k = w3.heap.size)) :
    KeepsFrom W0.heap.size W (w4.setCell ⟨g, 0, none⟩ (.slice A4 (os.length + 1 + m) c4)) ∧
    ((w4.setCell ⟨g, 0, none⟩ (.slice A4 (os.length + 1 + m) c4)).heap[w.heap.size + 1]? = W.heap[w.heap.size + 1]? ∧ (w4.setCell ⟨g, 0, none⟩ (.slice A4 (os.length + 1 + m) c4)).heap[w.heap.size + 1 + 1]? = W.heap[w.heap.size + 1 + 1]?) ∧
    ∃ Ao' co', Wr (w4.setCell ⟨g, 0, none⟩ (.slice A4 (os.length + 1 + m) c4)) base g Ao' co' Aw cw (out ++ litsB wait ((pre ++ [(⟨x, hx⟩ : { x : Nat // x < wait.length })]).map (·.1))) wait ∧ Mod (fun k => k = g ∨ At Ao k) w (w4.setCell ⟨g, 0, none⟩ (.slice A4 (os.length + 1 + m) c4)) ∧
      (∀ k, At Ao' k → At Ao k ∨ w.heap.size + 3 ≤ k) ∧ Blk (w4.setCell ⟨g, 0, none⟩ (.slice A4 (os.length + 1 + m) c4)) w.heap.size 82 #[.pointer (some ⟨g, 0, none⟩)] ∧ Blk (w4.setCell ⟨g, 0, none⟩ (.slice A4 (os.length + 1 + m) c4)) (w.heap.size + 1) 22 #[.slice Aw wait.length cw] ∧ Blk (w4.setCell ⟨g, 0, none⟩ (.slice A4 (os.length + 1 + m) c4)) (w.heap.size + 1 + 1) 3 #[.int .i64 128] ∧ W0.heap.size ≤ (w4.setCell ⟨g, 0, none⟩ (.slice A4 (os.length + 1 + m) c4)).heap.size := by
  obtain ⟨i1, i2, i3, i4, i5, i6, i7⟩ := hI
  obtain ⟨m1, m2, m3, m4, m5⟩ := hmm
  have s1 := hN1.size
  have s3 := m1.size
  have hk3 : ∀ k, At A3 k → At Ao' k ∨ W.heap.size ≤ k := fun k hk => (m2 k hk).imp id (fun e => by omega)
  have hk4 : ∀ k, At A4 k → At Ao' k ∨ W.heap.size ≤ k := fun k hk => by
    rcases m5 k hk with h | h
    · exact hk3 k h
    · exact .inr (by omega)
  have hmod : Mod (fun k => At Ao' k ∨ W.heap.size ≤ k) W1 w4 := (m1.mono (fun _ _ h => .inl h)).trans m4 (fun k _ h => hk3 k h)
  have hlen : (os ++ [UInt8.ofNat (m - 1)] ++ (wait.drop x).take 128).length = os.length + 1 + m := by
    rw [List.length_append, List.length_append, List.length_take, List.length_drop, hm]; rfl
  have hst := i1.store_out hN1 hmod m3 hk4
  rw [hlen] at hst
  obtain ⟨w5, hw5⟩ : ∃ w5, w4.setCell ⟨g, 0, none⟩ (.slice A4 (os.length + 1 + m) c4) = w5 := ⟨_, rfl⟩
  rw [hw5] at hst ⊢
  obtain ⟨t1, t2⟩ := hst
  have hne : ∀ {k t cs}, Blk W k t cs → t ≠ 63 → t ≠ 5 → ¬ (k = g ∨ At Ao' k) := fun {k t cs} hb h63 h5 e => by
    rcases e with e | e
    · subst e; exact Blk.ne_ hb i1.blk h63 rfl
    · exact OwnV.at_ne i1.own hb (fun e => h5 e.symm) e
  have hcells : ∀ k, (k = g ∨ At Ao' k) → ∃ t cs, Blk W k t cs := fun k e => by
    rcases e with e | e
    · subst e; exact ⟨_, _, i1.blk⟩
    · exact OwnV.at_blk i1.own k e
  have e1 : out ++ litsB wait ((pre ++ [(⟨x, hx⟩ : { x : Nat // x < wait.length })]).map (·.1)) = os ++ [UInt8.ofNat (m - 1)] ++ (wait.drop x).take 128 := by
    rw [← hos, hm]
    simp [litsB, chunk1]
  refine ⟨keeps_of_mod t2 hcells, ⟨t2.block _ i5.lt (hne i5 (by decide) (by decide)), t2.block _ i6.lt (hne i6 (by decide) (by decide))⟩, A4, c4, by rw [e1]; exact t1, ?_, ?_, i4.mod t2 (hne i4 (by decide) (by decide)), i5.mod t2 (hne i5 (by decide) (by decide)), i6.mod t2 (hne i6 (by decide) (by decide)), Nat.le_trans i7 t2.size⟩
  · refine i2.trans t2 (fun k hk e => ?_)
    rcases e with e | e
    · exact .inl e
    · rcases i3 k e with h | h
      · exact .inr h
      · omega
  · intro k hk
    rcases hk4 k hk with h | h
    · exact i3 k h
    · exact .inr (by omega)

set_option maxRecDepth 100000 in
set_option maxHeartbeats 1000000 in
theorem flush_any (base g : Nat) (Ao : Option Addr) (co : Nat) (Aw : Option Addr) (cw : Nat) (out wait : List UInt8) (w : World) (h : Wr w base g Ao co Aw cw out wait) (hb : base ≤ w.heap.size) (hl : wait.length ≤ 3000000) (hlo : out.length ≤ 30000000) :
    Calls Try.prog 29 #[.pointer (some ⟨g, 0, none⟩)] w fun e w' => e = .returned (.tuple #[]) ∧ ∃ Ao' co', Wr w' base g Ao' co' Aw cw (out ++ flushB wait) [] ∧ Mod (fun k => k = g ∨ At Ao k) w w' ∧ (∀ k, At Ao' k → At Ao k ∨ w.heap.size ≤ k) := by
  have hc1 := (h.blk.alloc (.cells #[.pointer (some ⟨g, 0, none⟩)] 82)).cell 1 _ rfl
  have hgb := h.blk.lt
  have H := Lib.hid h
  clear h
  refine callsIn_wide (n := 9) |>.1 ?_
  refine callsIn_of_wp_marks Try.func29 rfl trivial ?_ rfl
  simp only [Try.ntmps29, List.size_toArray, List.length_cons, List.length_nil, Nat.reduceAdd, Nat.reduceSub, Array.replicate_succ, Array.replicate_zero, List.push_toArray, List.append_toArray, List.nil_append, List.cons_append]
  refine wpIn_wide.2 ?_
  go_wp2_with (go_at_call 37; go_must (refine (chunk_any _ _ _ _).mono ?_; rintro e w' ⟨rfl, rfl⟩))
  obtain ⟨W0, hW0⟩ : ∃ W0, (((w.alloc (.cells #[.pointer (some ⟨g, 0, none⟩)] 82)).alloc (.cells #[.slice Aw wait.length cw] 22)).alloc (.cells #[.int .i64 128] 3)) = W0 := ⟨_, rfl⟩
  have hB1 : Blk W0 w.heap.size 82 #[.pointer (some ⟨g, 0, none⟩)] := by rw [← hW0]; exact ((Blk.fresh w 82 _).alloc _).alloc _
  have hB2 : Blk W0 (w.heap.size + 1) 22 #[.slice Aw wait.length cw] := by
    rw [← hW0]; have := Blk.fresh (w.alloc (.cells #[.pointer (some ⟨g, 0, none⟩)] 82)) 22 #[.slice Aw wait.length cw]; rw [World.size_alloc] at this; exact this.alloc _
  have hB3 : Blk W0 (w.heap.size + 1 + 1) 3 #[.int .i64 128] := by
    rw [← hW0]; have := Blk.fresh ((w.alloc (.cells #[.pointer (some ⟨g, 0, none⟩)] 82)).alloc (.cells #[.slice Aw wait.length cw] 22)) 3 #[.int .i64 128]; rwa [World.size_alloc, World.size_alloc] at this
  have hsz : W0.heap.size = w.heap.size + 3 := by rw [← hW0]; simp
  have hN : New w W0 := by rw [← hW0]; exact (((Mod.refl _ _).alloc _).alloc _).alloc _
  rw [hW0]
  have hcap : wait.length ≤ cw := by have := (OwnB.rd H.out.ownw).cap; exact this
  refine wpIn_wide (n := 9) |>.1 ?_
  refine wpIn_rangeFunc_ownG (n := 9) rfl (by omega) (gf := 40) (lb := #[.pointer (some ⟨w.heap.size + 1, 0, none⟩), .pointer (some ⟨w.heap.size + 1 + 1, 0, none⟩)]) rfl trivial (enters_of Try.func40 (by kernel_rfl) rfl)
    (chunk_stops (w.heap.size + 1) (w.heap.size + 1 + 1) Aw wait.length cw (fun h0 => (OwnB.rd H.out.ownw).addr h0) (by omega) hcap W0 hB2 hB3)
    (fun h k => ⟨k.1.trans h.1, k.2.trans h.2⟩) ?kb (Below.refl _ _) (fun _ => rfl)
    (fun pre W => ∃ Ao' co', Wr W base g Ao' co' Aw cw (out ++ litsB wait (pre.map (·.1))) wait ∧ Mod (fun k => k = g ∨ At Ao k) w W ∧ (∀ k, At Ao' k → At Ao k ∨ w.heap.size + 3 ≤ k) ∧ Blk W w.heap.size 82 #[.pointer (some ⟨g, 0, none⟩)] ∧ Blk W (w.heap.size + 1) 22 #[.slice Aw wait.length cw] ∧ Blk W (w.heap.size + 1 + 1) 3 #[.int .i64 128] ∧ W0.heap.size ≤ W.heap.size)
    (fun _ _ _ => False) ?hI (fun _ _ _ _ _ hs _ _ => hs) ?h0
    (fun x => { tmps := #[.pointer (some ⟨g, 0, none⟩), .pointer (some ⟨w.heap.size, 0, none⟩), .slice (Aw.map fun ad => ⟨ad.block, ad.off + x.1, none⟩) (min 128 (wait.length - x.1)) (min 128 (wait.length - x.1)), .pointer (some ⟨g, 0, none⟩), .pointer (some ⟨g, 0, none⟩), .pointer (some ⟨g, 1, none⟩), .slice Aw wait.length cw,
      .func (.func 40) #[] #[.pointer (some ⟨w.heap.size + 1, 0, none⟩), .pointer (some ⟨w.heap.size + 1 + 1, 0, none⟩)], .slice (Aw.map fun ad => ⟨ad.block, ad.off + x.1, none⟩) (min 128 (wait.length - x.1)) (min 128 (wait.length - x.1)), undef, undef, undef, undef, undef, undef, undef, undef, undef, undef, undef, undef, undef, undef, undef, undef, undef, undef, undef, undef, undef, undef, undef], defers := [] }) ?assign ?body ?done ?stop
  case kb =>
    intro W l o o' hle hl hc hwk
    refine ⟨World.putObj_heap_other (by omega), World.putObj_heap_other (by omega)⟩
  case hI =>
    rintro s W W' row ⟨Ao', co', h1, h2, h3, h4, h5, h6, h7⟩ hg hr
    have hr' : ∀ r, row = some r → ∃ o : Obj, W.heap[r]? = some o ∧ o.isCells = false := fun r e => (hr r e).2
    exact ⟨Ao', co', h1.own_ hg hr', h2.grown hg (fun k e hk => by have := (hr k e).1; omega), h3, h4.own hg hr', h5.own hg hr', h6.own hg hr', Nat.le_trans h7 hg.size⟩
  case h0 =>
    have e0 : out ++ litsB wait (([] : List { x : Nat // x < wait.length }).map (·.1)) = out := by simp [litsB]
    rw [e0]
    exact ⟨Ao, co, ⟨H.out.blk.new hN, OwnV.new H.out.own hN, OwnV.new H.out.ownw hN, H.out.apart⟩, hN.new, fun k hk => .inl hk, hB1, hB2, hB3, Nat.le_refl _⟩
  case assign =>
    intro l x W K hK
    unfold encC
    gi_wp2
    exact hK
  case body =>
    rintro l pre ⟨x, hx⟩ W ⟨Ao', co', h1, h2, h3, h4, h5, h6, h7⟩ hlt
    obtain ⟨m, hm⟩ : ∃ m, m = min 128 (wait.length - x) := ⟨_, rfl⟩
    simp only [← hm]
    have hbox := h4.cell 0 _ rfl
    have hm1 : (1 : Int) ≤ m := by omega
    have hm2 : (m : Int) ≤ 128 := by omega
    have Hm := Lib.hid hm
    have HI := Lib.hid (And.intro h1 (And.intro h2 (And.intro h3 (And.intro h4 (And.intro h5 (And.intro h6 h7))))))
    have Hx := Lib.hid hx
    clear hm h1 h2 h3 h4 h5 h6 h7
    gi_wp2_with fail
    have e1 : IntKind.i64.wrap ((m : Int) - 1) = (m : Int) - 1 := IntWalk.i64_in _ (by omega)
    have e2 : IntKind.u8.wrap ((m : Int) - 1) = ((UInt8.ofNat (m - 1)).toNat : Int) := by
      rw [IntWalk.u8_in _ (by omega), UInt8.toNat_ofNat_of_lt' (by have h := hm2; show m - 1 < 256; omega)]; omega
    refine wpIn_region_held_round (S := fun W' => W'.cell? ⟨w.heap.size, 0, none⟩ = some (.pointer (some ⟨g, 0, none⟩))) ?hQ (by kernel_rfl) (by kernel_rfl) ?_
    case hQ =>
      rintro ⟨a, w, h⟩
      exact h
    have hS0 : W.drew.cell? ⟨w.heap.size, 0, none⟩ = some (.pointer (some ⟨g, 0, none⟩)) := hbox
    refine takeH 0 9 (v := ?v0) rfl rfl (by kernel_rfl) (by kernel_rfl) (by kernel_rfl) (fun _ _ _ h => h) (Or.inl ⟨by rfl, ?y0⟩) hS0 ?r0
    case y0 => (intro w hSw; (try dsimp only at hSw); go_simp; (try with_reducible rfl))
    simp only [List.setIfInBounds_toArray, List.set_cons_zero, List.set_cons_succ]
    refine takeH 1 10 (v := ?v1) rfl rfl (by kernel_rfl) (by kernel_rfl) (by kernel_rfl) (fun _ _ _ h => h) (Or.inl ⟨by rfl, ?y1⟩) hS0 ?r1
    case y1 => (intro w hSw; (try dsimp only at hSw); go_simp; (try with_reducible rfl))
    simp only [List.setIfInBounds_toArray, List.set_cons_zero, List.set_cons_succ]
    refine takeH 2 11 (v := ?v2) rfl rfl (by kernel_rfl) (by kernel_rfl) (by kernel_rfl) (fun _ _ _ h => h) (Or.inl ⟨by rfl, ?y2⟩) hS0 ?r2
    case y2 => (intro w hSw; (try dsimp only at hSw); go_simp; (try with_reducible rfl))
    simp only [List.setIfInBounds_toArray, List.set_cons_zero, List.set_cons_succ]
    refine takeH 3 12 (v := ?v3) rfl rfl (by kernel_rfl) (by kernel_rfl) (by kernel_rfl) (fun _ _ _ h => h) (Or.inl ⟨by rfl, ?y3⟩) hS0 ?r3
    case y3 => (intro w hSw; (try dsimp only at hSw); go_simp; (try with_reducible rfl))
    simp only [List.setIfInBounds_toArray, List.set_cons_zero, List.set_cons_succ]
    refine takeH 5 14 (v := ?v5) rfl rfl (by kernel_rfl) (by kernel_rfl) (by kernel_rfl) (fun _ _ _ h => h) (Or.inl ⟨by rfl, ?y5⟩) hS0 ?r5
    case y5 => (intro w hSw; (try dsimp only at hSw); go_simp; (try with_reducible rfl))
    simp only [List.setIfInBounds_toArray, List.set_cons_zero, List.set_cons_succ]
    refine takeH 6 15 (v := ?v6) rfl rfl (by kernel_rfl) (by kernel_rfl) (by kernel_rfl) (fun _ _ _ h => h) (Or.inl ⟨by rfl, ?y6⟩) hS0 ?r6
    case y6 => (intro w hSw; (try dsimp only at hSw); go_simp; (try with_reducible rfl))
    simp only [List.setIfInBounds_toArray, List.set_cons_zero, List.set_cons_succ]
    refine takeH 7 16 (v := ?v7) rfl rfl (by kernel_rfl) (by kernel_rfl) (by kernel_rfl) (fun _ _ _ h => h) (Or.inl ⟨by rfl, ?y7⟩) hS0 ?r7
    case y7 => (intro w hSw; (try dsimp only at hSw); go_simp; (try with_reducible rfl))
    simp only [List.setIfInBounds_toArray, List.set_cons_zero, List.set_cons_succ]
    refine takeH 8 17 (v := ?v8) rfl rfl (by kernel_rfl) (by kernel_rfl) (by kernel_rfl) (fun _ _ _ h => h) (Or.inl ⟨by rfl, ?y8⟩) hS0 ?r8
    case y8 => (intro w hSw; (try dsimp only at hSw); go_simp; (try with_reducible rfl))
    simp only [List.setIfInBounds_toArray, List.set_cons_zero, List.set_cons_succ]
    refine takeH 11 20 (v := ?v11) rfl rfl (by kernel_rfl) (by kernel_rfl) (by kernel_rfl) (fun _ _ _ h => h) (Or.inl ⟨by rfl, ?y11⟩) hS0 ?r11
    case y11 => (intro w hSw; (try dsimp only at hSw); go_simp; (try with_reducible rfl))
    simp only [List.setIfInBounds_toArray, List.set_cons_zero, List.set_cons_succ]
    obtain ⟨os, hos⟩ : ∃ os, out ++ litsB wait (pre.map (·.1)) = os := ⟨_, rfl⟩
    have hosl : os.length ≤ 100000000 := by
      have h1 := litsB_length wait (pre.map (·.1))
      rw [List.length_map] at h1
      rw [← hos, List.length_append]
      omega
    rw [hos] at HI
    obtain ⟨W1, hW1⟩ : ∃ W1, W.drew.alloc (.cells #[.int .u8 ((UInt8.ofNat (m - 1)).toNat : Int)] 5) = W1 := ⟨_, rfl⟩
    have HA := Lib.hid (flush_pre (y := UInt8.ofNat (m - 1)) HI.out.1 HI.out.2.2.2.1 Hx.out Hm.out hb HI.out.2.1.size)
    rw [hW1] at HA
    have hg0 : W.drew.cell? ⟨g, 0, none⟩ = some (.slice Ao' os.length co') := HI.out.1.blk.cell 0 _ rfl
    have hg1 : W1.cell? ⟨g, 0, none⟩ = some (.slice Ao' os.length co') := HA.out.2.2.1.cell 0 _ rfl
    have hS1 : W1.cell? ⟨w.heap.size, 0, none⟩ = some (.pointer (some ⟨g, 0, none⟩)) := HA.out.2.1.cell 0 _ rfl
    have hbs : ∀ v, (Instr.buildSlice 22 1 #[(0, .int .u8 v)]).run Try.prog W.drew = .ok (.slice (some ⟨W.heap.size, 0, none⟩) 1 1) (W.drew.alloc (.cells #[.int .u8 v] 5)) := fun v => by go_simp
    refine twoH' 4 13 9 18 rfl rfl rfl rfl (by kernel_rfl) (by rfl) (by rfl) ?two1 ?two2
    case two1 =>
      intro K hK
      refine wp_run (v := .slice Ao' os.length co') (w' := W.drew) (by go_simp) (hK _ _ hS0 ?_)
      clear hK K
      simp only [List.setIfInBounds_toArray, List.set_cons_zero, List.set_cons_succ]
      refine stepH' 9 18 rfl rfl (by kernel_rfl) (by rfl) ?_
      intro K hK
      refine wp_run (v := .slice (some ⟨W.heap.size, 0, none⟩) 1 1) (w' := W1) (by rw [← hW1]; go_simp) (hK _ _ hS1 ?_)
      clear hK K
      simp only [List.setIfInBounds_toArray, List.set_cons_zero, List.set_cons_succ]
      refine stepH' 10 19 rfl rfl (by kernel_rfl) (by rfl) ?_
      intro K hK
      refine wp_append_b _ _ rfl base Ao' os.length co' os rfl rfl HA.out.1 (some ⟨W.heap.size, 0, none⟩) 1 1 [UInt8.ofNat (m - 1)] rfl HA.out.2.2.2.2.1 (by omega) HA.out.2.2.2.2.2.2 ?_
      intro A3 c3 w3 hown3 hm3 hk3
      have H3 := Lib.hid (flush_mid HI.out.1 HA.out hown3 hm3)
      have hS3 : w3.cell? ⟨w.heap.size, 0, none⟩ = some (.pointer (some ⟨g, 0, none⟩)) := H3.out.2.1.cell 0 _ rfl
      refine hK _ _ hS3 ?_
      clear hK K
      simp only [List.setIfInBounds_toArray, List.set_cons_zero, List.set_cons_succ]
      refine stepH' 12 21 rfl rfl (by kernel_rfl) (by rfl) ?_
      intro K hK
      refine wp_append_b _ _ rfl base A3 (os.length + 1) c3 (os ++ [UInt8.ofNat (m - 1)]) rfl (by simp) hown3 _ m m ((wait.drop x).take 128) rfl H3.out.2.2.2.1 (by omega) H3.out.2.2.2.2 ?_
      intro A4 c4 w4 hown4 hm4 hk4
      have H4 := Lib.hid (flush_mid2 (m := m) H3.out hown3 hown4 hm4)
      have hS4 : w4.cell? ⟨w.heap.size, 0, none⟩ = some (.pointer (some ⟨g, 0, none⟩)) := H4.out.1.cell 0 _ rfl
      have hg4 : w4.cell? ⟨g, 0, none⟩ = some (.slice Ao' os.length co') := Blk.cell H4.out.2 0 _ rfl
      have hf4 : w4.frozen? ⟨g, 0, none⟩ = false := Blk.frozen H4.out.2 0
      have hgne : g ≠ w.heap.size := by omega
      refine hK _ _ hS4 ?_
      clear hK K
      have Hmm := Lib.hid (And.intro hm3 (And.intro hk3 (And.intro hown4 (And.intro hm4 hk4))))
      clear hm3 hk3 hown4 hm4 hk4 hown3
      simp only [List.setIfInBounds_toArray, List.set_cons_zero, List.set_cons_succ]
      refine takeH 13 22 (v := ?v13a) rfl rfl (by kernel_rfl) (by kernel_rfl) (by kernel_rfl) (fun _ _ _ h => h) (Or.inl ⟨by rfl, ?y13a⟩) hS4 ?r13a
      case y13a => (intro w hSw; (try dsimp only at hSw); go_simp; (try with_reducible rfl))
      simp only [List.setIfInBounds_toArray, List.set_cons_zero, List.set_cons_succ]
      refine takeH 14 23 (v := ?v14a) rfl rfl (by kernel_rfl) (by kernel_rfl) (by kernel_rfl) (fun _ _ _ h => h) (Or.inl ⟨by rfl, ?y14a⟩) hS4 ?r14a
      case y14a => (intro w hSw; (try dsimp only at hSw); go_simp; (try with_reducible rfl))
      simp only [List.setIfInBounds_toArray, List.set_cons_zero, List.set_cons_succ]
      refine stepH 15 rfl (by kernel_rfl) (by rfl) ?_
      refine wp_run_skip (w' := w4.setCell ⟨g, 0, none⟩ (.slice A4 (os.length + 1 + m) c4)) (by go_simp) ⟨?_, ?_⟩
      · exact (World.cell?_setCell_other w4 ⟨g, 0, none⟩ ⟨w.heap.size, 0, none⟩ _ (by simp [hgne])).trans hS4
      · refine wpAnyH_done (by kernel_rfl) ?_ _
        have := flush_end (base := base) (w := w) (W0 := W0) (pre := pre) (hx := Hx.out) hos Hm.out hsz HI.out HA.out.2.2.2.2.2.1 Hmm.out
        exact this
    case two2 =>
      intro K hK
      refine wp_run (v := .slice (some ⟨W.heap.size, 0, none⟩) 1 1) (w' := W1) (by rw [← hW1]; go_simp) (hK _ _ hS1 ?_)
      clear hK K
      simp only [List.setIfInBounds_toArray, List.set_cons_zero, List.set_cons_succ]
      refine stepH' 4 13 rfl rfl (by kernel_rfl) (by rfl) ?_
      intro K hK
      refine wp_run (v := .slice Ao' os.length co') (w' := W1) (by go_simp) (hK _ _ hS1 ?_)
      clear hK K
      simp only [List.setIfInBounds_toArray, List.set_cons_zero, List.set_cons_succ]
      refine stepH' 10 19 rfl rfl (by kernel_rfl) (by rfl) ?_
      intro K hK
      refine wp_append_b _ _ rfl base Ao' os.length co' os rfl rfl HA.out.1 (some ⟨W.heap.size, 0, none⟩) 1 1 [UInt8.ofNat (m - 1)] rfl HA.out.2.2.2.2.1 (by omega) HA.out.2.2.2.2.2.2 ?_
      intro A3 c3 w3 hown3 hm3 hk3
      have H3 := Lib.hid (flush_mid HI.out.1 HA.out hown3 hm3)
      have hS3 : w3.cell? ⟨w.heap.size, 0, none⟩ = some (.pointer (some ⟨g, 0, none⟩)) := H3.out.2.1.cell 0 _ rfl
      refine hK _ _ hS3 ?_
      clear hK K
      simp only [List.setIfInBounds_toArray, List.set_cons_zero, List.set_cons_succ]
      refine stepH' 12 21 rfl rfl (by kernel_rfl) (by rfl) ?_
      intro K hK
      refine wp_append_b _ _ rfl base A3 (os.length + 1) c3 (os ++ [UInt8.ofNat (m - 1)]) rfl (by simp) hown3 _ m m ((wait.drop x).take 128) rfl H3.out.2.2.2.1 (by omega) H3.out.2.2.2.2 ?_
      intro A4 c4 w4 hown4 hm4 hk4
      have H4 := Lib.hid (flush_mid2 (m := m) H3.out hown3 hown4 hm4)
      have hS4 : w4.cell? ⟨w.heap.size, 0, none⟩ = some (.pointer (some ⟨g, 0, none⟩)) := H4.out.1.cell 0 _ rfl
      have hg4 : w4.cell? ⟨g, 0, none⟩ = some (.slice Ao' os.length co') := Blk.cell H4.out.2 0 _ rfl
      have hf4 : w4.frozen? ⟨g, 0, none⟩ = false := Blk.frozen H4.out.2 0
      have hgne : g ≠ w.heap.size := by omega
      refine hK _ _ hS4 ?_
      clear hK K
      have Hmm := Lib.hid (And.intro hm3 (And.intro hk3 (And.intro hown4 (And.intro hm4 hk4))))
      clear hm3 hk3 hown4 hm4 hk4 hown3
      simp only [List.setIfInBounds_toArray, List.set_cons_zero, List.set_cons_succ]
      refine takeH 13 22 (v := ?v13b) rfl rfl (by kernel_rfl) (by kernel_rfl) (by kernel_rfl) (fun _ _ _ h => h) (Or.inl ⟨by rfl, ?y13b⟩) hS4 ?r13b
      case y13b => (intro w hSw; (try dsimp only at hSw); go_simp; (try with_reducible rfl))
      simp only [List.setIfInBounds_toArray, List.set_cons_zero, List.set_cons_succ]
      refine takeH 14 23 (v := ?v14b) rfl rfl (by kernel_rfl) (by kernel_rfl) (by kernel_rfl) (fun _ _ _ h => h) (Or.inl ⟨by rfl, ?y14b⟩) hS4 ?r14b
      case y14b => (intro w hSw; (try dsimp only at hSw); go_simp; (try with_reducible rfl))
      simp only [List.setIfInBounds_toArray, List.set_cons_zero, List.set_cons_succ]
      refine stepH 15 rfl (by kernel_rfl) (by rfl) ?_
      refine wp_run_skip (w' := w4.setCell ⟨g, 0, none⟩ (.slice A4 (os.length + 1 + m) c4)) (by go_simp) ⟨?_, ?_⟩
      · exact (World.cell?_setCell_other w4 ⟨g, 0, none⟩ ⟨w.heap.size, 0, none⟩ _ (by simp [hgne])).trans hS4
      · refine wpAnyH_done (by kernel_rfl) ?_ _
        have := flush_end (base := base) (w := w) (W0 := W0) (pre := pre) (hx := Hx.out) hos Hm.out hsz HI.out HA.out.2.2.2.2.2.1 Hmm.out
        exact this
  case done =>
    rintro D xs W hD hxs ⟨Ao', co', h1, h2, h3, h4, h5, h6, h7⟩ hdef
    have hbox := h4.cell 0 _ rfl
    have hc1 := h1.blk.cell 1 _ rfl
    have hf1 := h1.blk.frozen 1
    have Hdef := Lib.hid hdef
    have HI := Lib.hid (And.intro h1 (And.intro h2 (And.intro h3 (And.intro h4 (And.intro h5 (And.intro h6 h7))))))
    have Hxs := Lib.hid hxs
    clear h1 h2 h3 h4 h5 h6 h7 hdef hxs
    go_wp2
    refine wp_region_still_tail 8 (by kernel_rfl) (by kernel_rfl) ?_
    change wpStill _ _ (World.drew _) (fun a' => wpList _ _ _ _ a' (World.drew _)) _ _
    simp only [List.take_succ_cons, List.take_zero, List.drop_succ_cons, List.drop_zero]
    repeat still_step
    try refine wpStill_nil ?_
    go_wp2
    obtain ⟨i1, i2, i3, -, -, -, -⟩ := HI.out
    have hst := i1.store_wait (Mod.refl _ W) (Mod.refl _ W) (OwnV.cutTo i1.ownw) (ws := []) (fun k hk => .inl hk)
    rw [List.length_nil] at hst
    obtain ⟨t1, t2⟩ := hst
    have hD5 : ((W.setCell ⟨g, 1, none⟩ (.slice Aw 0 cw)).drew).heap[D]? = some (.deferred (some [])) := (Below.heap_setCell W ⟨g, 1, none⟩ _ D (by show D ≠ g; omega)).trans Hdef.out
    refine ⟨by simp, .inl ⟨_, _, rfl, run_takeDeferred hD5, ?_⟩⟩
    have hg6 := grownBy_putObj' ((W.setCell ⟨g, 1, none⟩ (.slice Aw 0 cw)).drew) D (.deferred none)
    have hr6 : ∀ r, some D = some r → ∃ o : Obj, ((W.setCell ⟨g, 1, none⟩ (.slice Aw 0 cw)).drew).heap[r]? = some o ∧ o.isCells = false := fun r e => by cases e; exact ⟨_, hD5, rfl⟩
    have t1' : Wr ((W.setCell ⟨g, 1, none⟩ (.slice Aw 0 cw)).drew) base g Ao' co' Aw cw (out ++ litsB wait (xs.map (·.1))) [] := ⟨t1.blk, t1.own, t1.ownw, t1.apart⟩
    have t3 := t1'.own_ hg6 hr6
    rw [Hxs.out] at t3
    refine ⟨_, results_none rfl _ _ _, rfl, Ao', co', t3, ?_, fun k hk => (i3 k hk).imp id (fun h => by omega)⟩
    refine Mod.grown ?_ hg6 (fun k e hk => by cases e; omega)
    refine Mod.drew ?_
    refine i2.trans ((Mod.refl (fun k => k = g) W).setCell ⟨g, 1, none⟩ _ (fun _ => rfl)) (fun k _ e => .inl e)
  case stop =>
    rintro D c pre W _ _ h _
    exact h.elim
end Go.Proofs.Ytcpiplfajgdohaa
