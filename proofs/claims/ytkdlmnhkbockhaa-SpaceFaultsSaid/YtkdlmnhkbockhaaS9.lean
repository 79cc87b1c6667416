/- known. Conditions: those of each theorem. -/
import Derived.Test.YtkdlmnhkbockhaaS8
namespace Go.Proofs.Ytkdlmnhkbockhaa
open Go.RowKit

/-- A space that was made since w0, with its state in words. -/
structure St (A : Ask) (w0 w : World) (S : Nat) (s : VS) : Prop where
  ex : ∃ ps fr, Spi A w S ps fr s.2 ∧ vps ps fr = s.1 ∧ ∀ i, OwnF ps i → w0.heap.size ≤ i
  new : New w0 w
  late : w0.heap.size ≤ S ∧ ∀ i, A.T i → w0.heap.size ≤ i
theorem St.call {A : Ask} {w0 w : World} {S f : Nat} {args : Array Value} {s : VS} {r : Ending} {s' : VS} (h : St A w0 w S s)
    (hc : ∀ ps fr, Spi A w S ps fr s.2 → vps ps fr = s.1 → Calls Try.prog f args w fun e w' => e = r ∧ After A w w' S ps fr s') :
    Calls Try.prog f args w fun e w' => e = r ∧ St A w0 w' S s' := by
  obtain ⟨ps, fr, h1, h2, h3⟩ := h.ex
  refine (hc ps fr h1 h2).mono ?_
  rintro e w' ⟨he, ps', fr', h4, h5, h6⟩
  have hsz := h.new.size
  refine ⟨he, ⟨ps', fr', h4, h5, fun i hi => ?_⟩, h.new.trans h6.mod (fun i hi e => ?_), h.late⟩
  · rcases h6.own i hi with h7 | h7
    · exact h3 i h7
    · omega
  · rcases e with e | e | e
    · have := h.late.1; omega
    · have := h3 i e; omega
    · have := h.late.2 i e; omega
theorem St.more {A : Ask} {w0 w w' : World} {S : Nat} {s : VS} (h : St A w0 w S s) (hn : New w w') : St A w0 w' S s := by
  obtain ⟨ps, fr, h1, h2, h3⟩ := h.ex
  exact ⟨⟨ps, fr, h1.new hn, h2, h3⟩, h.new.trans hn (fun _ _ h => h), h.late⟩

/-- The state of a new space. -/
def z0 : VS := (List.replicate 64 ⟨false, false, false, false, [], false⟩, [])
theorem vps_zero (fr : Nat → List UInt8) : vps zeroPs fr = z0.1 := by
  unfold vps zeroPs z0
  rw [List.map_replicate]
  rfl
theorem new_st (A : Ask) (w0 w : World) (hs : SrcV A.src) (hw : New w0 w) (hj : A.J w []) (hT : ∀ i, A.T i → w0.heap.size ≤ i) :
    Calls Try.prog 11 #[A.src] w fun e w' => e = .returned (.pointer (some ⟨w.heap.size, 0, none⟩)) ∧ St A w0 w' w.heap.size z0 ∧ New w w' := by
  refine (new_ok A.src hs w).mono ?_
  rintro e w' ⟨he, hsp, hn⟩
  have hsz := hw.size
  have hz : ∀ p ∈ zeroPs, p = Pg.zero := fun p hp => List.eq_of_mem_replicate hp
  refine ⟨he, ⟨⟨zeroPs, fun _ => [], ⟨hsp, ?_, fun p hp _ => hz p hp, A.stay _ _ _ _ hj hn (fun _ _ h => h.elim), ⟨fun ht => ?_, ?_⟩, fun _ => ⟨List.nodup_nil, fun k => ?_⟩⟩, vps_zero _, ?_⟩, hw.trans hn (fun _ _ h => h), by omega, hT⟩, hn⟩
  · intro i j p q g hi _ _ ho _
    rw [hz p (List.mem_of_getElem? hi)] at ho
    cases ho
  · have := A.old _ _ hj _ ht
    omega
  · rintro i ⟨p, hp, hc⟩
    rw [hz p hp] at hc
    cases hc
  · refine ⟨fun h => absurd h (List.not_mem_nil), fun ⟨p, hp, ha⟩ => ?_⟩
    rw [hz p (List.mem_of_getElem? hp)] at ha
    cases ha
  · rintro i ⟨p, hp, ho, _⟩
    rw [hz p hp] at ho
    cases ho
theorem load_st {A : Ask} (hA : NeedOk A) {w0 w : World} {S : Nat} {s : VS} (h : St A w0 w S s) (at_ n : Int) (hn : n ≤ 9223372036854775807) :
    Calls Try.prog 15 #[.pointer (some ⟨S, 0, none⟩), .int .i64 at_, .int .i64 n] w fun e w' => e = .returned (.tuple #[.string ⟨(loadP A at_ n s).1.1.toArray⟩, .int .i64 ((loadP A at_ n s).1.2 : Nat)]) ∧ St A w0 w' S (loadP A at_ n s).2 :=
  h.call fun ps fr h1 h2 => by
    have := load_ok hA S ps fr s.2 at_ n w h1 hn
    rwa [h2] at this
theorem store_st {A : Ask} (hA : NeedOk A) {w0 w : World} {S : Nat} {s : VS} (h : St A w0 w S s) (at_ : Int) (bs : List UInt8) (hn : bs.length ≤ 9223372036854775807) :
    Calls Try.prog 16 #[.pointer (some ⟨S, 0, none⟩), .int .i64 at_, .string ⟨bs.toArray⟩] w fun e w' => e = .returned (.int .i64 ((storeP A at_ bs s).1 : Nat)) ∧ St A w0 w' S (storeP A at_ bs s).2 :=
  h.call fun ps fr h1 h2 => by
    have := store_ok hA S ps fr s.2 at_ bs w h1 hn
    rwa [h2] at this
theorem map_st {A : Ask} (hA : NeedOk A) {w0 w : World} {S : Nat} {s : VS} (h : St A w0 w S s) (page : Int) (bs : List UInt8) :
    Calls Try.prog 19 #[.pointer (some ⟨S, 0, none⟩), .int .i64 page, .string ⟨bs.toArray⟩] w fun e w' => e = .returned (.int .i64 ((mapP A page bs s).1 : Nat)) ∧ St A w0 w' S (mapP A page bs s).2 :=
  h.call fun ps fr h1 h2 => by
    have := map_ok hA S ps fr s.2 page bs w h1
    rwa [h2] at this

def k1 : VS := (loadP noAsk 0 1 z0).2
def k2 : VS := (mapP noAsk 0 [97, 98] k1).2
def k3 : VS := (mapP noAsk 1 [] k2).2
def k4 : VS := (storeP noAsk 62 [120, 121, 122] k3).2
def k5 : VS := (loadP noAsk 61 5 k4).2
theorem e1 : (loadP noAsk 0 1 z0).1 = ([], 23) := by kernel_rfl
theorem e2 : (mapP noAsk 0 [97, 98] k1).1 = 0 := by kernel_rfl
theorem e3 : (mapP noAsk 1 [] k2).1 = 0 := by kernel_rfl
theorem e4 : (storeP noAsk 62 [120, 121, 122] k3).1 = 0 := by kernel_rfl
theorem e5 : (loadP noAsk 61 5 k4).1 = ([0, 120, 121, 122, 0], 0) := by kernel_rfl
theorem c1 {w0 w : World} {S : Nat} (h : St noAsk w0 w S z0) : Calls Try.prog 15 #[.pointer (some ⟨S, 0, none⟩), .int .i64 0, .int .i64 1] w fun e w' => e = .returned (.tuple #[.string ⟨#[]⟩, .int .i64 23]) ∧ St noAsk w0 w' S k1 := by
  have := load_st noAsk_need h 0 1 (by decide)
  rw [e1] at this
  exact this
theorem c2 {w0 w : World} {S : Nat} (h : St noAsk w0 w S k1) : Calls Try.prog 19 #[.pointer (some ⟨S, 0, none⟩), .int .i64 0, .string ⟨#[97, 98]⟩] w fun e w' => e = .returned (.int .i64 0) ∧ St noAsk w0 w' S k2 := by
  have := map_st noAsk_need h 0 [97, 98]
  rw [e2] at this
  exact this
theorem c3 {w0 w : World} {S : Nat} (h : St noAsk w0 w S k2) : Calls Try.prog 19 #[.pointer (some ⟨S, 0, none⟩), .int .i64 1, .string ⟨#[]⟩] w fun e w' => e = .returned (.int .i64 0) ∧ St noAsk w0 w' S k3 := by
  have := map_st noAsk_need h 1 []
  rw [e3] at this
  exact this
theorem c4 {w0 w : World} {S : Nat} (h : St noAsk w0 w S k3) : Calls Try.prog 16 #[.pointer (some ⟨S, 0, none⟩), .int .i64 62, .string ⟨#[120, 121, 122]⟩] w fun e w' => e = .returned (.int .i64 0) ∧ St noAsk w0 w' S k4 := by
  have := store_st noAsk_need h 62 [120, 121, 122] (by decide)
  rw [e4] at this
  exact this
theorem c5 {w0 w : World} {S : Nat} (h : St noAsk w0 w S k4) : Calls Try.prog 15 #[.pointer (some ⟨S, 0, none⟩), .int .i64 61, .int .i64 5] w fun e w' => e = .returned (.tuple #[.string ⟨#[0, 120, 121, 122, 0]⟩, .int .i64 0]) ∧ St noAsk w0 w' S k5 := by
  have := load_st noAsk_need h 61 5 (by decide)
  rw [e5] at this
  exact this

set_option maxRecDepth 100000 in
set_option maxHeartbeats 1000000 in
theorem known_ok (w : World) : Calls Try.prog 9 #[] w fun e w' => e = .returned (.bool true) ∧ New w w' := by
  go_enter Try.func9, Try.ntmps9
  go_wp2_with (first
    | (go_at_call 11; refine (new_st noAsk w w (.inl rfl) (Mod.refl _ _) trivial (fun _ h => h.elim)).mono ?_; rintro e w1 ⟨rfl, h1, -⟩; have H := Lib.hid h1; clear h1)
    | (go_at_call 15; with_reducible (refine (c1 H.out).mono ?_); rintro e w2 ⟨rfl, h1⟩; have H1 := Lib.hid h1; clear h1 H)
    | (go_at_call 19; with_reducible (refine (c2 H1.out).mono ?_); rintro e w3 ⟨rfl, h1⟩; have H2 := Lib.hid h1; clear h1 H1)
    | (go_at_call 19; with_reducible (refine (c3 H2.out).mono ?_); rintro e w4 ⟨rfl, h1⟩; have H3 := Lib.hid h1; clear h1 H2)
    | (go_at_call 16; with_reducible (refine (c4 H3.out).mono ?_); rintro e w5 ⟨rfl, h1⟩; have H4 := Lib.hid h1; clear h1 H3)
    | (go_at_call 15; with_reducible (refine (c5 H4.out).mono ?_); rintro e w6 ⟨rfl, h1⟩; have H5 := Lib.hid h1; clear h1 H4))
  go_ret
  exact ⟨rfl, H5.out.new⟩
end Go.Proofs.Ytkdlmnhkbockhaa
