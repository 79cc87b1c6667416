/- SpaceNil's walk. Conditions: those of each theorem. -/
import Derived.Test.YtkdlmnhkbockhaaN1
namespace Go.Proofs.Ytkdlmnhkbockhaa
open Go.RowKit

set_option maxRecDepth 100000 in
set_option maxHeartbeats 2000000 in
theorem spaceNil_ok (k q : UInt8) (at_ n : Int) (s : ByteArray) (w : World) : Calls Try.prog 8 #[.agg #[.int .u8 (k.toNat : Int), .int .u8 (q.toNat : Int), .int .i64 at_, .int .i64 n, .string s]] w fun e w' => e = .returned (.bool true) ∧ New w w' := by
  have hB : Blk (w.alloc (.cells #[.int .u8 (k.toNat : Int), .int .u8 (q.toNat : Int), .int .i64 at_, .int .i64 n, .string s] 44)) w.heap.size 44 #[.int .u8 (k.toNat : Int), .int .u8 (q.toNat : Int), .int .i64 at_, .int .i64 n, .string s] := Blk.fresh _ _ _
  have hw0 : New w (w.alloc (.cells #[.int .u8 (k.toNat : Int), .int .u8 (q.toNat : Int), .int .i64 at_, .int .i64 n, .string s] 44)) := (Mod.refl _ _).alloc _
  have HW := Lib.hid (And.intro hB hw0)
  clear hB hw0
  go_enter Try.func8, Try.ntmps8
  go_upto_region 7 with (first
    | (go_at_call 15; refine (nil_load _ _ _).mono ?_; rintro e w1 ⟨rfl, rfl⟩)
    | (go_at_call 29; refine (nil_word _ _).mono ?_; rintro e w1 ⟨rfl, rfl⟩)
    | (go_at_call 30; refine (nil_text _ _ _).mono ?_; rintro e w1 ⟨rfl, rfl⟩)
    | (go_at_call 25; refine (nil_page _ _).mono ?_; rintro e w1 ⟨rfl, rfl⟩)
    | (go_at_call 11; refine (new_ok .nilFunc (.inl rfl) _).mono ?_; rintro e w2 ⟨rfl, -, hn⟩; have H2 := Lib.hid hn; clear hn))
  have B2 : Hid (Blk w2 w.heap.size 44 #[.int .u8 (k.toNat : Int), .int .u8 (q.toNat : Int), .int .i64 at_, .int .i64 n, .string s] ∧ New w w2) := Lib.hid ⟨HW.out.1.new H2.out, HW.out.2.trans H2.out fun _ _ h => h⟩
  clear H2 HW
  go_wp2_with (first
    | (go_at_call 9; refine (known_ok _).mono ?_; rintro e w3 ⟨rfl, hn⟩; have B3 := Lib.hid (And.intro (B2.out.1.new hn) (B2.out.2.trans hn fun _ _ h => h)); have c2 := B3.out.1.cell 2 _ rfl; have c4 := B3.out.1.cell 4 _ rfl; clear hn B2)
    | (go_at_call 16; refine (nil_store _ _ _).mono ?_; rintro e w1 ⟨rfl, rfl⟩)
    | (go_at_call 18; refine (nil_setword _ 1 _).mono ?_; rintro e w4 ⟨rfl, hn⟩; have B4 := Lib.hid (And.intro (B3.out.1.new hn) (B3.out.2.trans hn fun _ _ h => h)); have c2' := B4.out.1.cell 2 _ rfl; have c4' := B4.out.1.cell 4 _ rfl; clear hn c2 c4 B3)
    | (go_at_call 19; refine (nil_map _ _ _).mono ?_; rintro e w1 ⟨rfl, rfl⟩)
    | (go_at_call 20; refine (nil_unmap _ _).mono ?_; rintro e w1 ⟨rfl, rfl⟩)
    | (go_at_call 31; refine (nil_has _ _).mono ?_; rintro e w1 ⟨rfl, rfl⟩)
    | (go_at_call 32; refine (nil_pages _).mono ?_; rintro e w1 ⟨rfl, rfl⟩)
    | (go_at_call 23; refine (nil_asked _).mono ?_; rintro e w1 ⟨rfl, rfl⟩)
    | (go_at_call 21; refine (nil_changes _).mono ?_; rintro e w1 ⟨rfl, rfl⟩)
    | (go_at_call 14; refine (nil_fork _).mono ?_; rintro e w1 ⟨rfl, rfl⟩)
    | (go_at_call 13; with_reducible (refine (nil_shared1 _ _).mono ?_); rintro e w1 ⟨rfl, rfl⟩)
    | (go_at_call 13; with_reducible (refine (nil_shared2 _ _).mono ?_); rintro e w1 ⟨rfl, rfl⟩)
    | (go_at_call 17; with_reducible (refine (nil_equal0 _).mono ?_); rintro e w1 ⟨rfl, rfl⟩)
    | (go_at_call 17; with_reducible (refine (nil_equal1 _ _).mono ?_); rintro e w1 ⟨rfl, rfl⟩)
    | (go_at_call 17; with_reducible (refine (nil_equal2 _ _).mono ?_); rintro e w1 ⟨rfl, rfl⟩))
  go_ret
  exact ⟨rfl, B4.out.2⟩
end Go.Proofs.Ytkdlmnhkbockhaa
