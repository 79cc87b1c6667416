/- A region that draws its order, inside a round of a range over a function, by a proof for no round. No condition. -/
import Derived.Test.YtcpiplfajgdohaaB0
import Derived.OrdersIn
import Derived.OrdersHeld
import Derived.Deep.Quiet
import Derived.RangeFuncCalls
namespace Go.Proofs.Ytcpiplfajgdohaa
open Go

theorem wpOpIn_of_wpOp {P : Program} {ops : Array Oper} {Q : Exit → Act → World → Prop} {l n i : Nat} {K : Act → World → Prop} {a : Act} {w : World} (hQ : ¬ LetsOut Q) (hnd : ∀ (i : Nat) (o : Oper), ops[i]? = some o → ∀ c, o.op ≠ .defer c)
    (h : wpOp P ops Q i K a w) : wpOpIn (Fence.wide.inRound l) n P ops Q i K a w := by
  unfold wpOp at h
  unfold wpOpIn
  cases ho : ops[i]? with
  | none => simpa [ho] using h
  | some o =>
    simp only [ho] at h ⊢
    split
    · rename_i hw
      rw [if_pos hw] at h
      rcases h with h | ⟨_, h⟩
      · unfold Oper.wpIn
        refine ⟨fun _ _ => trivial, ?_⟩
        rw [Oper.semAt_eq _ _ _ (hnd i o ho)]
        unfold Oper.wp at h
        generalize (execOp a.eval o).run P w = r at h
        cases r with
        | ok x w' =>
          cases x <;> simp only [Oper.upon, Oper.uponIn] at h ⊢ <;> first | exact h | skip
          case enter f args => exact ⟨fun hd => by simp [Fence.wide] at hd, CallsIn.inRound l (callsIn_wide.2 h)⟩
          case row row args =>
            refine ⟨fun hd => by simp [Fence.wide] at hd, fun c cs _ => ?_⟩
            obtain ⟨v, w2, hr, hs⟩ := h c cs
            exact ⟨v, w2, hr, stepsIn_wide.2 hs⟩
        | halt x w' => cases x <;> simp only [Oper.upon, Oper.uponIn] at h ⊢ <;> exact h
      · exact absurd h hQ
    · rename_i hw
      rw [if_neg hw] at h
      exact ⟨fun _ _ => trivial, h⟩

theorem wpAnyIn_of_wpAny {P : Program} {ops : Array Oper} {Q : Exit → Act → World → Prop} {l n : Nat} {md : Region.Mode} (hQ : ¬ LetsOut Q) (hnd : ∀ (i : Nat) (o : Oper), ops[i]? = some o → ∀ c, o.op ≠ .defer c) :
    ∀ (fuel : Nat) (listed : Array Bool) (a : Act) (w : World), wpAny P md ops Q fuel listed a w → wpAnyIn (Fence.wide.inRound l) n P md ops Q fuel listed a w
  | 0, _, _, _, h => h
  | fuel + 1, listed, a, w, h => ⟨h.1, fun i hi => wpOpIn_of_wpOp hQ hnd (wpOp_mono (fun a' w' h' => wpAnyIn_of_wpAny hQ hnd fuel _ a' w' h') (h.2 i hi))⟩

/-- No operation of the list is a deferred call. -/
def noDefer (l : List Oper) : Bool := l.all fun o => match o.op with | .defer _ => false | _ => true
theorem noDefer_spec {l : List Oper} (h : noDefer l = true) : ∀ (i : Nat) (o : Oper), l.toArray[i]? = some o → ∀ c, o.op ≠ .defer c := by
  intro i o ho c e
  have := List.all_eq_true.1 h o (by simpa using List.mem_of_getElem? (by simpa using ho))
  simp [e] at this

/-- A region that only reads, in a round: one walk in the order of the text. -/
theorem wpIn_region_quiet_round {P : Program} {id l n : Nat} {Q : Exit → Act → World → Prop} {a : Act} {w : World} {os : List Oper} (hQ : ¬ LetsOut Q) (hd : noDefer os = true) (hm : P.follows .mixedOrders = true) (hB : Region.lexB .any os.toArray = true)
    (h : wpQuiet P os.toArray (fun w' => ∃ n, w' = w.drewN n) (fun a' => ∀ w', (∃ n, w' = w.drewN n) → Q .normal a' w') os a) : (Code.region id os.toArray true).wpIn (Fence.wide.inRound l) n P Q a w := by
  simp only [Region.lexB, Bool.and_eq_true] at hB
  refine wpIn_region_any hm (wpAnyIn_of_wpAny hQ (noDefer_spec hd) _ _ _ _ (wpAny_of_quiet (C := fun w' => ∃ n, w' = w.drewN n) (Q := fun a' => ∀ w', (∃ n, w' = w.drewN n) → Q .normal a' w') (fun _ w' hw' h => h w' hw') _ _ _ _ ⟨1, rfl⟩ ?_))
  have := wpAnyQ_lex (C := fun w' => ∃ n, w' = w.drewN n) (md := .any) hB.1 os 0 (Array.replicate os.toArray.size false) a (by simp) (by simpa using hB.2) h
  simpa using this

/-- A region in a round whose loads S holds. -/
theorem wpIn_region_held_round {P : Program} {id l n : Nat} {Q : Exit → Act → World → Prop} {a : Act} {w : World} {os : List Oper} {S : World → Prop} (hQ : ¬ LetsOut Q) (hd : noDefer os = true) (hm : P.follows .mixedOrders = true)
    (h : wpAnyH P .any os.toArray Q S os.toArray.size (Array.replicate os.toArray.size false) a w.drew) : (Code.region id os.toArray true).wpIn (Fence.wide.inRound l) n P Q a w :=
  wpIn_region_any hm (wpAnyIn_of_wpAny hQ (noDefer_spec hd) _ _ _ _ (wpAny_of_held _ _ _ _ h))

section
variable {P : Program} {ops : Array Oper} {Q : Exit → Act → World → Prop} {md : Region.Mode} {S : World → Prop}
/-- Operation i, which only reads what S holds, is taken first. -/
theorem takeH {fuel : Nat} {listed : Array Bool} {a : Act} {w : World} (i d : Nat) {v : Value} {oi : Oper} (hi : ops[i]? = some oi) (hd : oi.dst = some d)
    (hs : Region.noSelect ops = true) (hf : Region.free md ops listed i = true) (hr : (Region.ready md ops listed).contains i = true)
    (hQ : ∀ c a w, Q (.panic c) (a.put oi.dst v) w → Q (.panic c) a w) (hy : YieldsIf P ops S oi v a) (hS : S w)
    (h : wpAnyH P md ops Q S fuel (listed.setIfInBounds i true) { tmps := a.tmps.setIfInBounds d v, defers := a.defers } w) : wpAnyH P md ops Q S (fuel + 1) listed a w := by
  refine wpAnyH_take hi hs hf hr hQ hy hS ?_
  rw [hd]
  exact h
/-- Operation i alone may come up. -/
theorem stepH {fuel : Nat} {listed : Array Bool} {a : Act} {w : World} (i : Nat) {oi : Oper} (hi : ops[i]? = some oi) (hr : Region.ready md ops listed = [i]) (hw : Region.wanted oi (yielded ops a.tmps) = true)
    (h : oi.wp P a w (fun a' w' => S w' ∧ wpAnyH P md ops Q S fuel (listed.setIfInBounds i true) a' w') Q) : wpAnyH P md ops Q S (fuel + 1) listed a w := by
  refine wpAnyH_all hr (by simp) (fun j hj => ?_)
  rw [List.mem_singleton] at hj
  subst hj
  unfold wpOp
  simp only [hi, hw, if_true]
  exact .inl h
theorem stepH' {fuel : Nat} {listed : Array Bool} {a : Act} {w : World} (i d : Nat) {oi : Oper} (hi : ops[i]? = some oi) (hd : oi.dst = some d) (hr : Region.ready md ops listed = [i]) (hw : Region.wanted oi (yielded ops a.tmps) = true)
    (h : ∀ K : Act → World → Prop, (∀ v w', S w' → wpAnyH P md ops Q S fuel (listed.setIfInBounds i true) { tmps := a.tmps.setIfInBounds d v, defers := a.defers } w' → K (a.put oi.dst v) w') → oi.wp P a w K Q) : wpAnyH P md ops Q S (fuel + 1) listed a w :=
  stepH i hi hr hw (h _ fun v w' hS hw' => ⟨hS, by rw [hd]; exact hw'⟩)
/-- Operation i or j may come up. -/
theorem twoH {fuel : Nat} {listed : Array Bool} {a : Act} {w : World} (i j : Nat) {oi oj : Oper} (hi : ops[i]? = some oi) (hj : ops[j]? = some oj) (hr : Region.ready md ops listed = [i, j]) (hwi : Region.wanted oi (yielded ops a.tmps) = true) (hwj : Region.wanted oj (yielded ops a.tmps) = true)
    (h1 : oi.wp P a w (fun a' w' => S w' ∧ wpAnyH P md ops Q S fuel (listed.setIfInBounds i true) a' w') Q)
    (h2 : oj.wp P a w (fun a' w' => S w' ∧ wpAnyH P md ops Q S fuel (listed.setIfInBounds j true) a' w') Q) : wpAnyH P md ops Q S (fuel + 1) listed a w := by
  refine wpAnyH_all hr (by simp) (fun k hk => ?_)
  simp only [List.mem_cons, List.not_mem_nil, or_false] at hk
  rcases hk with rfl | rfl
  · unfold wpOp
    simp only [hi, hwi, if_true]
    exact .inl h1
  · unfold wpOp
    simp only [hj, hwj, if_true]
    exact .inl h2
end
theorem stepHn {P : Program} {ops : Array Oper} {Q : Exit → Act → World → Prop} {md : Region.Mode} {S : World → Prop} {fuel : Nat} {listed : Array Bool} {a : Act} {w : World} (i : Nat) {oi : Oper} (hi : ops[i]? = some oi) (hd : oi.dst = none) (hr : Region.ready md ops listed = [i]) (hw : Region.wanted oi (yielded ops a.tmps) = true)
    (h : ∀ K : Act → World → Prop, (∀ v w', S w' → wpAnyH P md ops Q S fuel (listed.setIfInBounds i true) a w' → K (a.put oi.dst v) w') → oi.wp P a w K Q) : wpAnyH P md ops Q S (fuel + 1) listed a w :=
  stepH i hi hr hw (h _ fun v w' hS hw' => ⟨hS, by rw [hd]; exact hw'⟩)
theorem twoH' {P : Program} {ops : Array Oper} {Q : Exit → Act → World → Prop} {md : Region.Mode} {S : World → Prop} {fuel : Nat} {listed : Array Bool} {a : Act} {w : World} (i di j dj : Nat) {oi oj : Oper} (hi : ops[i]? = some oi) (hdi : oi.dst = some di) (hj : ops[j]? = some oj) (hdj : oj.dst = some dj) (hr : Region.ready md ops listed = [i, j]) (hwi : Region.wanted oi (yielded ops a.tmps) = true) (hwj : Region.wanted oj (yielded ops a.tmps) = true)
    (h1 : ∀ K : Act → World → Prop, (∀ v w', S w' → wpAnyH P md ops Q S fuel (listed.setIfInBounds i true) { tmps := a.tmps.setIfInBounds di v, defers := a.defers } w' → K (a.put oi.dst v) w') → oi.wp P a w K Q)
    (h2 : ∀ K : Act → World → Prop, (∀ v w', S w' → wpAnyH P md ops Q S fuel (listed.setIfInBounds j true) { tmps := a.tmps.setIfInBounds dj v, defers := a.defers } w' → K (a.put oj.dst v) w') → oj.wp P a w K Q) : wpAnyH P md ops Q S (fuel + 1) listed a w :=
  twoH i j hi hj hr hwi hwj (h1 _ fun v w' hS hw' => ⟨hS, by rw [hdi]; exact hw'⟩) (h2 _ fun v w' hS hw' => ⟨hS, by rw [hdj]; exact hw'⟩)
/-- A region whose loads S holds. -/
theorem wp_region_heldD {P : Program} {id : Nat} {Q : Exit → Act → World → Prop} {a : Act} {w : World} {os : List Oper} {S : World → Prop} (hm : P.follows .mixedOrders = true)
    (h : wpAnyH P .any os.toArray Q S os.toArray.size (Array.replicate os.toArray.size false) a w.drew) : (Code.region id os.toArray true).wp P Q a w :=
  wp_region_held hm h
/-- An operation whose run is known. -/
theorem wp_run {P : Program} {o : Oper} {a : Act} {w w' : World} {v : Value} {K : Act → World → Prop} {Q : Exit → Act → World → Prop} (hr : (execOp a.eval o).run P w = .ok (.value v) w') (h : K (a.put o.dst v) w') : o.wp P a w K Q := by
  unfold Oper.wp
  rw [hr]
  exact h
theorem wp_run_skip {P : Program} {o : Oper} {a : Act} {w w' : World} {K : Act → World → Prop} {Q : Exit → Act → World → Prop} (hr : (execOp a.eval o).run P w = .ok .skip w') (h : K (a.put o.dst undef) w') : o.wp P a w K Q := by
  unfold Oper.wp
  rw [hr]
  exact h
end Go.Proofs.Ytcpiplfajgdohaa
