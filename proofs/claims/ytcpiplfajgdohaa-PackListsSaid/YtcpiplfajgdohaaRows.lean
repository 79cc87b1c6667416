/-
  No cell of these rows narrows 'for every input' (looked for: loops, veiled, ifaces, maps, wideKeys, modest, calm, conditions, laid).
  DERIVED. THE GIVEN ROWS OF THIS SEAT. 8 by the template 'for every input the law returns true; each argument reads behind the call as it read before'; 0 by the template 'total and deterministic' (their statements: YtcpiplfajgdohaaTotals.lean).
  GIVEN WITH THE SEED: the statements are not yours to turn. If you find one false, say at which input.
  Laid BY PROGRAM, IN A SANDBOX (cutbox-rows.mjs): the forced cells as the released guide's own fill.sh prints them over the translation 0c458f460c3c2651… (all of the seat's roots in one cut). By AI agents, Wed Nov 11 2026. No macro, syntax, notation, axiom, sorry.
-/
import Derived.Test.YtcpiplfajgdohaaChecked
import GoSem.Claim
import GoSem.ClaimJoined
import GoSem.ClaimMapViews
import Derived.JoinedTies
import Derived.KernelRfl
namespace Go.Proofs.Ytcpiplfajgdohaa
/- THE CELL 'sum', in the pinned program and in every row, IS THE sha256 OF THE DUMP (.gsa) THAT YtcpiplfajgdohaaProg.lean LOADS. Nothing in Lean hashes anything: it is a label: what it is worth is what the hold of that sum in a sandbox is worth. -/
noncomputable def Try.pinned : Pinned := { name := "ytcpiplfajgdohaa", sum := "0c458f460c3c2651a717669528b8a1cd83014101d4e1835719505369dbf23d3e", checked := Try.checked }
namespace Rows
def none {H : Type} : Left H := { results := [], args := [] }

/-- 'replevinlaw15.PackForms': WHATEVER THE INPUT: true; the input reads as it did. -/
def packFormsSpec : ChangeSpec := { name := "packForms", fn := fun _ => fun
  | [d1, d2] => { results := [.lit (.bool true)], args := [d1, d2] }
  | _ => none }
def packFormsRow : OpenClaim := { program := "ytcpiplfajgdohaa", sum := "0c458f460c3c2651a717669528b8a1cd83014101d4e1835719505369dbf23d3e", func := "replevin/replevinlaw15.PackForms", spec := "packForms", unfollowed := true, recurses := true, plainKeys := false, apart := false }
def PackFormsSaid : Prop := packFormsRow.holds Try.pinned (OpenSpec.ofChange packFormsSpec)

/-- ITS FALSE NEIGHBOUR: 'it returns false'. Refute it at one input. -/
def packFormsWrong : ChangeSpec := { name := "packForms", fn := fun _ => fun
  | [d1, d2] => { results := [.lit (.bool false)], args := [d1, d2] }
  | _ => none }
def PackFormsWrongFalsely : Prop := packFormsRow.holds Try.pinned (OpenSpec.ofChange packFormsWrong)

/-- 'replevinlaw15.PackBack': WHATEVER THE INPUT: true; the input reads as it did. -/
def packBackSpec : ChangeSpec := { name := "packBack", fn := fun _ => fun
  | [d1, d2] => { results := [.lit (.bool true)], args := [d1, d2] }
  | _ => none }
def packBackRow : OpenClaim := { program := "ytcpiplfajgdohaa", sum := "0c458f460c3c2651a717669528b8a1cd83014101d4e1835719505369dbf23d3e", func := "replevin/replevinlaw15.PackBack", spec := "packBack", unfollowed := true, recurses := true, plainKeys := false, apart := false }
def PackBackSaid : Prop := packBackRow.holds Try.pinned (OpenSpec.ofChange packBackSpec)

/-- ITS FALSE NEIGHBOUR: 'it returns false'. Refute it at one input. -/
def packBackWrong : ChangeSpec := { name := "packBack", fn := fun _ => fun
  | [d1, d2] => { results := [.lit (.bool false)], args := [d1, d2] }
  | _ => none }
def PackBackWrongFalsely : Prop := packBackRow.holds Try.pinned (OpenSpec.ofChange packBackWrong)

/-- 'replevinlaw15.PackRepeats': WHATEVER THE INPUT: true; the input reads as it did. -/
def packRepeatsSpec : ChangeSpec := { name := "packRepeats", fn := fun _ => fun
  | [d1, d2] => { results := [.lit (.bool true)], args := [d1, d2] }
  | _ => none }
def packRepeatsRow : OpenClaim := { program := "ytcpiplfajgdohaa", sum := "0c458f460c3c2651a717669528b8a1cd83014101d4e1835719505369dbf23d3e", func := "replevin/replevinlaw15.PackRepeats", spec := "packRepeats", unfollowed := true, recurses := true, plainKeys := false, apart := false }
def PackRepeatsSaid : Prop := packRepeatsRow.holds Try.pinned (OpenSpec.ofChange packRepeatsSpec)

/-- ITS FALSE NEIGHBOUR: 'it returns false'. Refute it at one input. -/
def packRepeatsWrong : ChangeSpec := { name := "packRepeats", fn := fun _ => fun
  | [d1, d2] => { results := [.lit (.bool false)], args := [d1, d2] }
  | _ => none }
def PackRepeatsWrongFalsely : Prop := packRepeatsRow.holds Try.pinned (OpenSpec.ofChange packRepeatsWrong)

/-- 'replevinlaw15.PackBeginnings': WHATEVER THE INPUT: true; the input reads as it did. -/
def packBeginningsSpec : ChangeSpec := { name := "packBeginnings", fn := fun _ => fun
  | [d] => { results := [.lit (.bool true)], args := [d] }
  | _ => none }
def packBeginningsRow : OpenClaim := { program := "ytcpiplfajgdohaa", sum := "0c458f460c3c2651a717669528b8a1cd83014101d4e1835719505369dbf23d3e", func := "replevin/replevinlaw15.PackBeginnings", spec := "packBeginnings", unfollowed := true, recurses := true, plainKeys := false, apart := false }
def PackBeginningsSaid : Prop := packBeginningsRow.holds Try.pinned (OpenSpec.ofChange packBeginningsSpec)

/-- ITS FALSE NEIGHBOUR: 'it returns false'. Refute it at one input. -/
def packBeginningsWrong : ChangeSpec := { name := "packBeginnings", fn := fun _ => fun
  | [d] => { results := [.lit (.bool false)], args := [d] }
  | _ => none }
def PackBeginningsWrongFalsely : Prop := packBeginningsRow.holds Try.pinned (OpenSpec.ofChange packBeginningsWrong)

/-- 'replevinlaw15.PackBounds': WHATEVER THE INPUT: true; the input reads as it did. -/
def packBoundsSpec : ChangeSpec := { name := "packBounds", fn := fun _ => fun
  | [d1, d2, d3] => { results := [.lit (.bool true)], args := [d1, d2, d3] }
  | _ => none }
def packBoundsRow : OpenClaim := { program := "ytcpiplfajgdohaa", sum := "0c458f460c3c2651a717669528b8a1cd83014101d4e1835719505369dbf23d3e", func := "replevin/replevinlaw15.PackBounds", spec := "packBounds", unfollowed := true, recurses := true, plainKeys := false, apart := false }
def PackBoundsSaid : Prop := packBoundsRow.holds Try.pinned (OpenSpec.ofChange packBoundsSpec)

/-- ITS FALSE NEIGHBOUR: 'it returns false'. Refute it at one input. -/
def packBoundsWrong : ChangeSpec := { name := "packBounds", fn := fun _ => fun
  | [d1, d2, d3] => { results := [.lit (.bool false)], args := [d1, d2, d3] }
  | _ => none }
def PackBoundsWrongFalsely : Prop := packBoundsRow.holds Try.pinned (OpenSpec.ofChange packBoundsWrong)

/-- 'replevinlaw15.PackWindow': WHATEVER THE INPUT: true; the input reads as it did. -/
def packWindowSpec : ChangeSpec := { name := "packWindow", fn := fun _ => fun
  | [d1, d2] => { results := [.lit (.bool true)], args := [d1, d2] }
  | _ => none }
def packWindowRow : OpenClaim := { program := "ytcpiplfajgdohaa", sum := "0c458f460c3c2651a717669528b8a1cd83014101d4e1835719505369dbf23d3e", func := "replevin/replevinlaw15.PackWindow", spec := "packWindow", unfollowed := true, recurses := true, plainKeys := false, apart := false }
def PackWindowSaid : Prop := packWindowRow.holds Try.pinned (OpenSpec.ofChange packWindowSpec)

/-- ITS FALSE NEIGHBOUR: 'it returns false'. Refute it at one input. -/
def packWindowWrong : ChangeSpec := { name := "packWindow", fn := fun _ => fun
  | [d1, d2] => { results := [.lit (.bool false)], args := [d1, d2] }
  | _ => none }
def PackWindowWrongFalsely : Prop := packWindowRow.holds Try.pinned (OpenSpec.ofChange packWindowWrong)

/-- 'replevinlaw15.PackLimits': WHATEVER THE INPUT: true; the input reads as it did. -/
def packLimitsSpec : ChangeSpec := { name := "packLimits", fn := fun _ => fun
  | [d] => { results := [.lit (.bool true)], args := [d] }
  | _ => none }
def packLimitsRow : OpenClaim := { program := "ytcpiplfajgdohaa", sum := "0c458f460c3c2651a717669528b8a1cd83014101d4e1835719505369dbf23d3e", func := "replevin/replevinlaw15.PackLimits", spec := "packLimits", unfollowed := true, recurses := true, plainKeys := false, apart := false }
def PackLimitsSaid : Prop := packLimitsRow.holds Try.pinned (OpenSpec.ofChange packLimitsSpec)

/-- ITS FALSE NEIGHBOUR: 'it returns false'. Refute it at one input. -/
def packLimitsWrong : ChangeSpec := { name := "packLimits", fn := fun _ => fun
  | [d] => { results := [.lit (.bool false)], args := [d] }
  | _ => none }
def PackLimitsWrongFalsely : Prop := packLimitsRow.holds Try.pinned (OpenSpec.ofChange packLimitsWrong)

/-- 'replevinlaw15.PackLists': WHATEVER THE INPUT: true; the input reads as it did. -/
def packListsSpec : ChangeSpec := { name := "packLists", fn := fun _ => fun
  | [d1, d2, d3] => { results := [.lit (.bool true)], args := [d1, d2, d3] }
  | _ => none }
def packListsRow : OpenClaim := { program := "ytcpiplfajgdohaa", sum := "0c458f460c3c2651a717669528b8a1cd83014101d4e1835719505369dbf23d3e", func := "replevin/replevinlaw15.PackLists", spec := "packLists", unfollowed := true, recurses := true, plainKeys := false, apart := false }
def PackListsSaid : Prop := packListsRow.holds Try.pinned (OpenSpec.ofChange packListsSpec)

/-- ITS FALSE NEIGHBOUR: 'it returns false'. Refute it at one input. -/
def packListsWrong : ChangeSpec := { name := "packLists", fn := fun _ => fun
  | [d1, d2, d3] => { results := [.lit (.bool false)], args := [d1, d2, d3] }
  | _ => none }
def PackListsWrongFalsely : Prop := packListsRow.holds Try.pinned (OpenSpec.ofChange packListsWrong)

/- THE SECOND FORM. 'bulk': how many values and letters a reading holds, each counted each time it is reached (what is shared counts as often as it is met; a slice's spare places count too). A statement '..UptoSaid' is the law's where the arguments, and the package variables that the reading takes, are together of bulk at most 1048576: NARROWER than '..Said'. Prove '..Said' where nothing that the law and all that it calls make is longer than what came in: it says more and counts as full. Else prove '..UptoSaid'. A law counts once. -/
mutual
def uptoBulk {H : Type} : DataW H → Nat
  | .lit (.string bytes) => bytes.length + 1
  | .lit _ => 1
  | .nil => 1
  | .ptr d => uptoBulk d + 1
  | .slice elems spare => uptoBulkAll elems + uptoBulkAll spare + 1
  | .agg parts => uptoBulkAll parts + 1
  | .iface _ d => uptoBulk d + 1
  | .map entries => uptoBulkEntries entries + 1
  | .held _ => 1
def uptoBulkAll {H : Type} : List (DataW H) → Nat
  | [] => 0
  | d :: r => uptoBulk d + uptoBulkAll r
def uptoBulkEntries {H : Type} : List (Lit × DataW H) → Nat
  | [] => 0
  | x :: r => uptoBulkEntry x + uptoBulkEntries r
def uptoBulkEntry {H : Type} : Lit × DataW H → Nat
  | (.string bytes, d) => bytes.length + uptoBulk d + 1
  | (_, d) => uptoBulk d + 1
 end
def uptoSmall : (H : Type) → List (DataW H) → Bool := fun _ ds => decide (uptoBulkAll ds ≤ 1048576)
def OpenSpec.upto (s : _root_.Go.ChangeSpec) : _root_.Go.OpenSpec := { _root_.Go.OpenSpec.ofChange s with cond := some uptoSmall }

/-- 'replevinlaw15.PackForms', WHERE WHAT IT READS IS OF BULK AT MOST 1048576: true; the input reads as it did. -/
def packFormsUptoRow : OpenClaim := { program := "ytcpiplfajgdohaa", sum := "0c458f460c3c2651a717669528b8a1cd83014101d4e1835719505369dbf23d3e", func := "replevin/replevinlaw15.PackForms", spec := "packForms", unfollowed := true, recurses := true, plainKeys := false, apart := false, narrowed := true }
def PackFormsUptoSaid : Prop := packFormsUptoRow.holds Try.pinned (OpenSpec.upto packFormsSpec)

/-- 'replevinlaw15.PackBack', WHERE WHAT IT READS IS OF BULK AT MOST 1048576: true; the input reads as it did. -/
def packBackUptoRow : OpenClaim := { program := "ytcpiplfajgdohaa", sum := "0c458f460c3c2651a717669528b8a1cd83014101d4e1835719505369dbf23d3e", func := "replevin/replevinlaw15.PackBack", spec := "packBack", unfollowed := true, recurses := true, plainKeys := false, apart := false, narrowed := true }
def PackBackUptoSaid : Prop := packBackUptoRow.holds Try.pinned (OpenSpec.upto packBackSpec)

/-- 'replevinlaw15.PackRepeats', WHERE WHAT IT READS IS OF BULK AT MOST 1048576: true; the input reads as it did. -/
def packRepeatsUptoRow : OpenClaim := { program := "ytcpiplfajgdohaa", sum := "0c458f460c3c2651a717669528b8a1cd83014101d4e1835719505369dbf23d3e", func := "replevin/replevinlaw15.PackRepeats", spec := "packRepeats", unfollowed := true, recurses := true, plainKeys := false, apart := false, narrowed := true }
def PackRepeatsUptoSaid : Prop := packRepeatsUptoRow.holds Try.pinned (OpenSpec.upto packRepeatsSpec)

/-- 'replevinlaw15.PackBeginnings', WHERE WHAT IT READS IS OF BULK AT MOST 1048576: true; the input reads as it did. -/
def packBeginningsUptoRow : OpenClaim := { program := "ytcpiplfajgdohaa", sum := "0c458f460c3c2651a717669528b8a1cd83014101d4e1835719505369dbf23d3e", func := "replevin/replevinlaw15.PackBeginnings", spec := "packBeginnings", unfollowed := true, recurses := true, plainKeys := false, apart := false, narrowed := true }
def PackBeginningsUptoSaid : Prop := packBeginningsUptoRow.holds Try.pinned (OpenSpec.upto packBeginningsSpec)

/-- 'replevinlaw15.PackBounds', WHERE WHAT IT READS IS OF BULK AT MOST 1048576: true; the input reads as it did. -/
def packBoundsUptoRow : OpenClaim := { program := "ytcpiplfajgdohaa", sum := "0c458f460c3c2651a717669528b8a1cd83014101d4e1835719505369dbf23d3e", func := "replevin/replevinlaw15.PackBounds", spec := "packBounds", unfollowed := true, recurses := true, plainKeys := false, apart := false, narrowed := true }
def PackBoundsUptoSaid : Prop := packBoundsUptoRow.holds Try.pinned (OpenSpec.upto packBoundsSpec)

/-- 'replevinlaw15.PackWindow', WHERE WHAT IT READS IS OF BULK AT MOST 1048576: true; the input reads as it did. -/
def packWindowUptoRow : OpenClaim := { program := "ytcpiplfajgdohaa", sum := "0c458f460c3c2651a717669528b8a1cd83014101d4e1835719505369dbf23d3e", func := "replevin/replevinlaw15.PackWindow", spec := "packWindow", unfollowed := true, recurses := true, plainKeys := false, apart := false, narrowed := true }
def PackWindowUptoSaid : Prop := packWindowUptoRow.holds Try.pinned (OpenSpec.upto packWindowSpec)

/-- 'replevinlaw15.PackLimits', WHERE WHAT IT READS IS OF BULK AT MOST 1048576: true; the input reads as it did. -/
def packLimitsUptoRow : OpenClaim := { program := "ytcpiplfajgdohaa", sum := "0c458f460c3c2651a717669528b8a1cd83014101d4e1835719505369dbf23d3e", func := "replevin/replevinlaw15.PackLimits", spec := "packLimits", unfollowed := true, recurses := true, plainKeys := false, apart := false, narrowed := true }
def PackLimitsUptoSaid : Prop := packLimitsUptoRow.holds Try.pinned (OpenSpec.upto packLimitsSpec)

/-- 'replevinlaw15.PackLists', WHERE WHAT IT READS IS OF BULK AT MOST 1048576: true; the input reads as it did. -/
def packListsUptoRow : OpenClaim := { program := "ytcpiplfajgdohaa", sum := "0c458f460c3c2651a717669528b8a1cd83014101d4e1835719505369dbf23d3e", func := "replevin/replevinlaw15.PackLists", spec := "packLists", unfollowed := true, recurses := true, plainKeys := false, apart := false, narrowed := true }
def PackListsUptoSaid : Prop := packListsUptoRow.holds Try.pinned (OpenSpec.upto packListsSpec)

end Rows
end Go.Proofs.Ytcpiplfajgdohaa
