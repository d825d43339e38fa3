/-
  No cell of these rows narrows 'for every input' (looked for: loops, veiled, ifaces, maps, wideKeys, modest, calm, conditions, laid).
  DERIVED. THE GIVEN ROWS OF THIS SEAT. 7 by the template 'for every input the law returns true; each argument reads behind the call as it read before'; 0 by the template 'total and deterministic' (their statements: YtkifajabiggfmaaTotals.lean).
  GIVEN WITH THE SEED: the statements are not yours to turn. If you find one false, say at which input.
  Laid BY PROGRAM, IN A SANDBOX (cutbox-rows.mjs): the forced cells as the released guide's own fill.sh prints them over the translation f90d695a6dea7997… (all of the seat's roots in one cut). By AI agents, Wed Nov 11 2026. No macro, syntax, notation, axiom, sorry.
-/
import Derived.Test.YtkifajabiggfmaaChecked
import GoSem.Claim
import GoSem.ClaimJoined
import GoSem.ClaimMapViews
import Derived.JoinedTies
import Derived.KernelRfl
namespace Go.Proofs.Ytkifajabiggfmaa
/- THE CELL 'sum', in the pinned program and in every row, IS THE sha256 OF THE DUMP (.gsa) THAT YtkifajabiggfmaaProg.lean LOADS. Nothing in Lean hashes anything: it is a label: what it is worth is what the hold of that sum in a sandbox is worth. -/
noncomputable def Try.pinned : Pinned := { name := "ytkifajabiggfmaa", sum := "f90d695a6dea7997055e8a370056d928883cc6cb75c7b2914ca65aa469583edb", checked := Try.checked }
namespace Rows
def none {H : Type} : Left H := { results := [], args := [] }

/-- 'bordereaulaw25.EventGroups': WHATEVER THE INPUT: true; the input reads as it did. -/
def eventGroupsSpec : ChangeSpec := { name := "eventGroups", fn := fun _ => fun
  | [d1, d2] => { results := [.lit (.bool true)], args := [d1, d2] }
  | _ => none }
def eventGroupsRow : OpenClaim := { program := "ytkifajabiggfmaa", sum := "f90d695a6dea7997055e8a370056d928883cc6cb75c7b2914ca65aa469583edb", func := "bordereau/bordereaulaw25.EventGroups", spec := "eventGroups", unfollowed := true, recurses := true, named := ["math/bits.divideError", "math/bits.overflowError"], apart := false }
def EventGroupsSaid : Prop := eventGroupsRow.holds Try.pinned (OpenSpec.ofChange eventGroupsSpec)

/-- ITS FALSE NEIGHBOUR: 'it returns false'. Refute it at one input. -/
def eventGroupsWrong : ChangeSpec := { name := "eventGroups", fn := fun _ => fun
  | [d1, d2] => { results := [.lit (.bool false)], args := [d1, d2] }
  | _ => none }
def EventGroupsWrongFalsely : Prop := eventGroupsRow.holds Try.pinned (OpenSpec.ofChange eventGroupsWrong)

/-- 'bordereaulaw25.EventWindows': WHATEVER THE INPUT: true; the input reads as it did. -/
def eventWindowsSpec : ChangeSpec := { name := "eventWindows", fn := fun _ => fun
  | [d1, d2] => { results := [.lit (.bool true)], args := [d1, d2] }
  | _ => none }
def eventWindowsRow : OpenClaim := { program := "ytkifajabiggfmaa", sum := "f90d695a6dea7997055e8a370056d928883cc6cb75c7b2914ca65aa469583edb", func := "bordereau/bordereaulaw25.EventWindows", spec := "eventWindows", unfollowed := true, recurses := true, named := ["math/bits.divideError", "math/bits.overflowError"], apart := false }
def EventWindowsSaid : Prop := eventWindowsRow.holds Try.pinned (OpenSpec.ofChange eventWindowsSpec)

/-- ITS FALSE NEIGHBOUR: 'it returns false'. Refute it at one input. -/
def eventWindowsWrong : ChangeSpec := { name := "eventWindows", fn := fun _ => fun
  | [d1, d2] => { results := [.lit (.bool false)], args := [d1, d2] }
  | _ => none }
def EventWindowsWrongFalsely : Prop := eventWindowsRow.holds Try.pinned (OpenSpec.ofChange eventWindowsWrong)

/-- 'bordereaulaw25.EventGathers': WHATEVER THE INPUT: true; the input reads as it did. -/
def eventGathersSpec : ChangeSpec := { name := "eventGathers", fn := fun _ => fun
  | [d1, d2] => { results := [.lit (.bool true)], args := [d1, d2] }
  | _ => none }
def eventGathersRow : OpenClaim := { program := "ytkifajabiggfmaa", sum := "f90d695a6dea7997055e8a370056d928883cc6cb75c7b2914ca65aa469583edb", func := "bordereau/bordereaulaw25.EventGathers", spec := "eventGathers", unfollowed := true, recurses := true, named := ["math/bits.divideError", "math/bits.overflowError"], apart := false }
def EventGathersSaid : Prop := eventGathersRow.holds Try.pinned (OpenSpec.ofChange eventGathersSpec)

/-- ITS FALSE NEIGHBOUR: 'it returns false'. Refute it at one input. -/
def eventGathersWrong : ChangeSpec := { name := "eventGathers", fn := fun _ => fun
  | [d1, d2] => { results := [.lit (.bool false)], args := [d1, d2] }
  | _ => none }
def EventGathersWrongFalsely : Prop := eventGathersRow.holds Try.pinned (OpenSpec.ofChange eventGathersWrong)

/-- 'bordereaulaw25.EventBears': WHATEVER THE INPUT: true; the input reads as it did. -/
def eventBearsSpec : ChangeSpec := { name := "eventBears", fn := fun _ => fun
  | [d1, d2] => { results := [.lit (.bool true)], args := [d1, d2] }
  | _ => none }
def eventBearsRow : OpenClaim := { program := "ytkifajabiggfmaa", sum := "f90d695a6dea7997055e8a370056d928883cc6cb75c7b2914ca65aa469583edb", func := "bordereau/bordereaulaw25.EventBears", spec := "eventBears", unfollowed := true, recurses := true, named := ["math/bits.divideError", "math/bits.overflowError"], apart := false }
def EventBearsSaid : Prop := eventBearsRow.holds Try.pinned (OpenSpec.ofChange eventBearsSpec)

/-- ITS FALSE NEIGHBOUR: 'it returns false'. Refute it at one input. -/
def eventBearsWrong : ChangeSpec := { name := "eventBears", fn := fun _ => fun
  | [d1, d2] => { results := [.lit (.bool false)], args := [d1, d2] }
  | _ => none }
def EventBearsWrongFalsely : Prop := eventBearsRow.holds Try.pinned (OpenSpec.ofChange eventBearsWrong)

/-- 'bordereaulaw25.EventMost': WHATEVER THE INPUT: true; the input reads as it did. -/
def eventMostSpec : ChangeSpec := { name := "eventMost", fn := fun _ => fun
  | [d1, d2] => { results := [.lit (.bool true)], args := [d1, d2] }
  | _ => none }
def eventMostRow : OpenClaim := { program := "ytkifajabiggfmaa", sum := "f90d695a6dea7997055e8a370056d928883cc6cb75c7b2914ca65aa469583edb", func := "bordereau/bordereaulaw25.EventMost", spec := "eventMost", unfollowed := true, recurses := true, named := ["math/bits.divideError", "math/bits.overflowError"], apart := false }
def EventMostSaid : Prop := eventMostRow.holds Try.pinned (OpenSpec.ofChange eventMostSpec)

/-- ITS FALSE NEIGHBOUR: 'it returns false'. Refute it at one input. -/
def eventMostWrong : ChangeSpec := { name := "eventMost", fn := fun _ => fun
  | [d1, d2] => { results := [.lit (.bool false)], args := [d1, d2] }
  | _ => none }
def EventMostWrongFalsely : Prop := eventMostRow.holds Try.pinned (OpenSpec.ofChange eventMostWrong)

/-- 'bordereaulaw25.EventOne': WHATEVER THE INPUT: true; the input reads as it did. -/
def eventOneSpec : ChangeSpec := { name := "eventOne", fn := fun _ => fun
  | [d1, d2] => { results := [.lit (.bool true)], args := [d1, d2] }
  | _ => none }
def eventOneRow : OpenClaim := { program := "ytkifajabiggfmaa", sum := "f90d695a6dea7997055e8a370056d928883cc6cb75c7b2914ca65aa469583edb", func := "bordereau/bordereaulaw25.EventOne", spec := "eventOne", unfollowed := true, recurses := true, named := ["math/bits.divideError", "math/bits.overflowError"], apart := false }
def EventOneSaid : Prop := eventOneRow.holds Try.pinned (OpenSpec.ofChange eventOneSpec)

/-- ITS FALSE NEIGHBOUR: 'it returns false'. Refute it at one input. -/
def eventOneWrong : ChangeSpec := { name := "eventOne", fn := fun _ => fun
  | [d1, d2] => { results := [.lit (.bool false)], args := [d1, d2] }
  | _ => none }
def EventOneWrongFalsely : Prop := eventOneRow.holds Try.pinned (OpenSpec.ofChange eventOneWrong)

/-- 'bordereaulaw25.EventAlone': WHATEVER THE INPUT: true; the input reads as it did. -/
def eventAloneSpec : ChangeSpec := { name := "eventAlone", fn := fun _ => fun
  | [d1, d2] => { results := [.lit (.bool true)], args := [d1, d2] }
  | _ => none }
def eventAloneRow : OpenClaim := { program := "ytkifajabiggfmaa", sum := "f90d695a6dea7997055e8a370056d928883cc6cb75c7b2914ca65aa469583edb", func := "bordereau/bordereaulaw25.EventAlone", spec := "eventAlone", unfollowed := true, recurses := true, named := ["math/bits.divideError", "math/bits.overflowError"], apart := false }
def EventAloneSaid : Prop := eventAloneRow.holds Try.pinned (OpenSpec.ofChange eventAloneSpec)

/-- ITS FALSE NEIGHBOUR: 'it returns false'. Refute it at one input. -/
def eventAloneWrong : ChangeSpec := { name := "eventAlone", fn := fun _ => fun
  | [d1, d2] => { results := [.lit (.bool false)], args := [d1, d2] }
  | _ => none }
def EventAloneWrongFalsely : Prop := eventAloneRow.holds Try.pinned (OpenSpec.ofChange eventAloneWrong)

/- THE SECOND FORM. 'bulk': how many values and letters a reading holds, each counted each time it is reached (what is shared counts as often as it is met; a slice's spare places count too). A statement '..UptoSaid' is the law's where the arguments, and the package variables that the reading takes, are together of bulk at most 1048576: NARROWER than '..Said'. Prove '..Said' where nothing that the law and all that it calls make is longer than what came in: it says more and counts as full. Else prove '..UptoSaid'. A law counts once. -/
mutual
def uptoBulk {H : Type} : DataW H → Nat
  | .lit (.string bytes) => bytes.length + 1
  | .lit _ => 1
  | .nil => 1
  | .ptr d => uptoBulk d + 1
  | .slice elems spare => uptoBulkAll elems + uptoBulkAll spare + 1
  | .agg parts => uptoBulkAll parts + 1
  | .iface _ d => uptoBulk d + 1
  | .map entries => uptoBulkEntries entries + 1
  | .held _ => 1
def uptoBulkAll {H : Type} : List (DataW H) → Nat
  | [] => 0
  | d :: r => uptoBulk d + uptoBulkAll r
def uptoBulkEntries {H : Type} : List (Lit × DataW H) → Nat
  | [] => 0
  | x :: r => uptoBulkEntry x + uptoBulkEntries r
def uptoBulkEntry {H : Type} : Lit × DataW H → Nat
  | (.string bytes, d) => bytes.length + uptoBulk d + 1
  | (_, d) => uptoBulk d + 1
 end
def uptoSmall : (H : Type) → List (DataW H) → Bool := fun _ ds => decide (uptoBulkAll ds ≤ 1048576)
def OpenSpec.upto (s : _root_.Go.ChangeSpec) : _root_.Go.OpenSpec := { _root_.Go.OpenSpec.ofChange s with cond := some uptoSmall }

/-- 'bordereaulaw25.EventGroups', WHERE WHAT IT READS IS OF BULK AT MOST 1048576: true; the input reads as it did. -/
def eventGroupsUptoRow : OpenClaim := { program := "ytkifajabiggfmaa", sum := "f90d695a6dea7997055e8a370056d928883cc6cb75c7b2914ca65aa469583edb", func := "bordereau/bordereaulaw25.EventGroups", spec := "eventGroups", unfollowed := true, recurses := true, named := ["math/bits.divideError", "math/bits.overflowError"], apart := false, narrowed := true }
def EventGroupsUptoSaid : Prop := eventGroupsUptoRow.holds Try.pinned (OpenSpec.upto eventGroupsSpec)

/-- 'bordereaulaw25.EventWindows', WHERE WHAT IT READS IS OF BULK AT MOST 1048576: true; the input reads as it did. -/
def eventWindowsUptoRow : OpenClaim := { program := "ytkifajabiggfmaa", sum := "f90d695a6dea7997055e8a370056d928883cc6cb75c7b2914ca65aa469583edb", func := "bordereau/bordereaulaw25.EventWindows", spec := "eventWindows", unfollowed := true, recurses := true, named := ["math/bits.divideError", "math/bits.overflowError"], apart := false, narrowed := true }
def EventWindowsUptoSaid : Prop := eventWindowsUptoRow.holds Try.pinned (OpenSpec.upto eventWindowsSpec)

/-- 'bordereaulaw25.EventGathers', WHERE WHAT IT READS IS OF BULK AT MOST 1048576: true; the input reads as it did. -/
def eventGathersUptoRow : OpenClaim := { program := "ytkifajabiggfmaa", sum := "f90d695a6dea7997055e8a370056d928883cc6cb75c7b2914ca65aa469583edb", func := "bordereau/bordereaulaw25.EventGathers", spec := "eventGathers", unfollowed := true, recurses := true, named := ["math/bits.divideError", "math/bits.overflowError"], apart := false, narrowed := true }
def EventGathersUptoSaid : Prop := eventGathersUptoRow.holds Try.pinned (OpenSpec.upto eventGathersSpec)

/-- 'bordereaulaw25.EventBears', WHERE WHAT IT READS IS OF BULK AT MOST 1048576: true; the input reads as it did. -/
def eventBearsUptoRow : OpenClaim := { program := "ytkifajabiggfmaa", sum := "f90d695a6dea7997055e8a370056d928883cc6cb75c7b2914ca65aa469583edb", func := "bordereau/bordereaulaw25.EventBears", spec := "eventBears", unfollowed := true, recurses := true, named := ["math/bits.divideError", "math/bits.overflowError"], apart := false, narrowed := true }
def EventBearsUptoSaid : Prop := eventBearsUptoRow.holds Try.pinned (OpenSpec.upto eventBearsSpec)

/-- 'bordereaulaw25.EventMost', WHERE WHAT IT READS IS OF BULK AT MOST 1048576: true; the input reads as it did. -/
def eventMostUptoRow : OpenClaim := { program := "ytkifajabiggfmaa", sum := "f90d695a6dea7997055e8a370056d928883cc6cb75c7b2914ca65aa469583edb", func := "bordereau/bordereaulaw25.EventMost", spec := "eventMost", unfollowed := true, recurses := true, named := ["math/bits.divideError", "math/bits.overflowError"], apart := false, narrowed := true }
def EventMostUptoSaid : Prop := eventMostUptoRow.holds Try.pinned (OpenSpec.upto eventMostSpec)

/-- 'bordereaulaw25.EventOne', WHERE WHAT IT READS IS OF BULK AT MOST 1048576: true; the input reads as it did. -/
def eventOneUptoRow : OpenClaim := { program := "ytkifajabiggfmaa", sum := "f90d695a6dea7997055e8a370056d928883cc6cb75c7b2914ca65aa469583edb", func := "bordereau/bordereaulaw25.EventOne", spec := "eventOne", unfollowed := true, recurses := true, named := ["math/bits.divideError", "math/bits.overflowError"], apart := false, narrowed := true }
def EventOneUptoSaid : Prop := eventOneUptoRow.holds Try.pinned (OpenSpec.upto eventOneSpec)

/-- 'bordereaulaw25.EventAlone', WHERE WHAT IT READS IS OF BULK AT MOST 1048576: true; the input reads as it did. -/
def eventAloneUptoRow : OpenClaim := { program := "ytkifajabiggfmaa", sum := "f90d695a6dea7997055e8a370056d928883cc6cb75c7b2914ca65aa469583edb", func := "bordereau/bordereaulaw25.EventAlone", spec := "eventAlone", unfollowed := true, recurses := true, named := ["math/bits.divideError", "math/bits.overflowError"], apart := false, narrowed := true }
def EventAloneUptoSaid : Prop := eventAloneUptoRow.holds Try.pinned (OpenSpec.upto eventAloneSpec)

end Rows
end Go.Proofs.Ytkifajabiggfmaa
