/-
  No cell of these rows narrows 'for every input' (looked for: loops, veiled, ifaces, maps, wideKeys, modest, calm, conditions, laid).
  DERIVED. THE GIVEN ROWS OF THIS SEAT. 8 by the template 'for every input the law returns true; each argument reads behind the call as it read before'; 0 by the template 'total and deterministic' (their statements: YthkfedghiklmeaaTotals.lean).
  GIVEN WITH THE SEED: the statements are not yours to turn. If you find one false, say at which input.
  Laid BY PROGRAM, IN A SANDBOX (cutbox-rows.mjs): the forced cells as the released guide's own fill.sh prints them over the translation 1a2c384600da2c26… (all of the seat's roots in one cut). By AI agents, Wed Nov 11 2026. No macro, syntax, notation, axiom, sorry.
-/
import Derived.Test.YthkfedghiklmeaaChecked
import GoSem.Claim
import GoSem.ClaimJoined
import GoSem.ClaimMapViews
import Derived.JoinedTies
import Derived.KernelRfl
namespace Go.Proofs.Ythkfedghiklmeaa
/- THE CELL 'sum', in the pinned program and in every row, IS THE sha256 OF THE DUMP (.gsa) THAT YthkfedghiklmeaaProg.lean LOADS. Nothing in Lean hashes anything: it is a label: what it is worth is what the hold of that sum in a sandbox is worth. -/
noncomputable def Try.pinned : Pinned := { name := "ythkfedghiklmeaa", sum := "1a2c384600da2c267d1f4daef306a41563518435400e0bfcea3d74df05d68897", checked := Try.checked }
namespace Rows
def none {H : Type} : Left H := { results := [], args := [] }

/-- 'bordereaulaw16.BillPlans': WHATEVER THE INPUT: true; the input reads as it did. -/
def billPlansSpec : ChangeSpec := { name := "billPlans", fn := fun _ => fun
  | [d1, d2, d3] => { results := [.lit (.bool true)], args := [d1, d2, d3] }
  | _ => none }
def billPlansRow : OpenClaim := { program := "ythkfedghiklmeaa", sum := "1a2c384600da2c267d1f4daef306a41563518435400e0bfcea3d74df05d68897", func := "bordereau/bordereaulaw16.BillPlans", spec := "billPlans", unfollowed := true, recurses := true, named := ["math/bits.divideError", "math/bits.overflowError"], apart := false }
def BillPlansSaid : Prop := billPlansRow.holds Try.pinned (OpenSpec.ofChange billPlansSpec)

/-- ITS FALSE NEIGHBOUR: 'it returns false'. Refute it at one input. -/
def billPlansWrong : ChangeSpec := { name := "billPlans", fn := fun _ => fun
  | [d1, d2, d3] => { results := [.lit (.bool false)], args := [d1, d2, d3] }
  | _ => none }
def BillPlansWrongFalsely : Prop := billPlansRow.holds Try.pinned (OpenSpec.ofChange billPlansWrong)

/-- 'bordereaulaw16.BillPays': WHATEVER THE INPUT: true; the input reads as it did. -/
def billPaysSpec : ChangeSpec := { name := "billPays", fn := fun _ => fun
  | [d1, d2, d3] => { results := [.lit (.bool true)], args := [d1, d2, d3] }
  | _ => none }
def billPaysRow : OpenClaim := { program := "ythkfedghiklmeaa", sum := "1a2c384600da2c267d1f4daef306a41563518435400e0bfcea3d74df05d68897", func := "bordereau/bordereaulaw16.BillPays", spec := "billPays", unfollowed := true, recurses := true, named := ["math/bits.divideError", "math/bits.overflowError"], apart := false }
def BillPaysSaid : Prop := billPaysRow.holds Try.pinned (OpenSpec.ofChange billPaysSpec)

/-- ITS FALSE NEIGHBOUR: 'it returns false'. Refute it at one input. -/
def billPaysWrong : ChangeSpec := { name := "billPays", fn := fun _ => fun
  | [d1, d2, d3] => { results := [.lit (.bool false)], args := [d1, d2, d3] }
  | _ => none }
def BillPaysWrongFalsely : Prop := billPaysRow.holds Try.pinned (OpenSpec.ofChange billPaysWrong)

/-- 'bordereaulaw16.BillWhole': WHATEVER THE INPUT: true; the input reads as it did. -/
def billWholeSpec : ChangeSpec := { name := "billWhole", fn := fun _ => fun
  | [d1, d2, d3] => { results := [.lit (.bool true)], args := [d1, d2, d3] }
  | _ => none }
def billWholeRow : OpenClaim := { program := "ythkfedghiklmeaa", sum := "1a2c384600da2c267d1f4daef306a41563518435400e0bfcea3d74df05d68897", func := "bordereau/bordereaulaw16.BillWhole", spec := "billWhole", unfollowed := true, recurses := true, named := ["math/bits.divideError", "math/bits.overflowError"], apart := false }
def BillWholeSaid : Prop := billWholeRow.holds Try.pinned (OpenSpec.ofChange billWholeSpec)

/-- ITS FALSE NEIGHBOUR: 'it returns false'. Refute it at one input. -/
def billWholeWrong : ChangeSpec := { name := "billWhole", fn := fun _ => fun
  | [d1, d2, d3] => { results := [.lit (.bool false)], args := [d1, d2, d3] }
  | _ => none }
def BillWholeWrongFalsely : Prop := billWholeRow.holds Try.pinned (OpenSpec.ofChange billWholeWrong)

/-- 'bordereaulaw16.BillOldest': WHATEVER THE INPUT: true; the input reads as it did. -/
def billOldestSpec : ChangeSpec := { name := "billOldest", fn := fun _ => fun
  | [d1, d2] => { results := [.lit (.bool true)], args := [d1, d2] }
  | _ => none }
def billOldestRow : OpenClaim := { program := "ythkfedghiklmeaa", sum := "1a2c384600da2c267d1f4daef306a41563518435400e0bfcea3d74df05d68897", func := "bordereau/bordereaulaw16.BillOldest", spec := "billOldest", unfollowed := true, recurses := true, named := ["math/bits.divideError", "math/bits.overflowError"], apart := false }
def BillOldestSaid : Prop := billOldestRow.holds Try.pinned (OpenSpec.ofChange billOldestSpec)

/-- ITS FALSE NEIGHBOUR: 'it returns false'. Refute it at one input. -/
def billOldestWrong : ChangeSpec := { name := "billOldest", fn := fun _ => fun
  | [d1, d2] => { results := [.lit (.bool false)], args := [d1, d2] }
  | _ => none }
def BillOldestWrongFalsely : Prop := billOldestRow.holds Try.pinned (OpenSpec.ofChange billOldestWrong)

/-- 'bordereaulaw16.BillTwice': WHATEVER THE INPUT: true; the input reads as it did. -/
def billTwiceSpec : ChangeSpec := { name := "billTwice", fn := fun _ => fun
  | [d1, d2, d3] => { results := [.lit (.bool true)], args := [d1, d2, d3] }
  | _ => none }
def billTwiceRow : OpenClaim := { program := "ythkfedghiklmeaa", sum := "1a2c384600da2c267d1f4daef306a41563518435400e0bfcea3d74df05d68897", func := "bordereau/bordereaulaw16.BillTwice", spec := "billTwice", unfollowed := true, recurses := true, named := ["math/bits.divideError", "math/bits.overflowError"], apart := false }
def BillTwiceSaid : Prop := billTwiceRow.holds Try.pinned (OpenSpec.ofChange billTwiceSpec)

/-- ITS FALSE NEIGHBOUR: 'it returns false'. Refute it at one input. -/
def billTwiceWrong : ChangeSpec := { name := "billTwice", fn := fun _ => fun
  | [d1, d2, d3] => { results := [.lit (.bool false)], args := [d1, d2, d3] }
  | _ => none }
def BillTwiceWrongFalsely : Prop := billTwiceRow.holds Try.pinned (OpenSpec.ofChange billTwiceWrong)

/-- 'bordereaulaw16.BillOpens': WHATEVER THE INPUT: true; the input reads as it did. -/
def billOpensSpec : ChangeSpec := { name := "billOpens", fn := fun _ => fun
  | [d1, d2, d3, d4] => { results := [.lit (.bool true)], args := [d1, d2, d3, d4] }
  | _ => none }
def billOpensRow : OpenClaim := { program := "ythkfedghiklmeaa", sum := "1a2c384600da2c267d1f4daef306a41563518435400e0bfcea3d74df05d68897", func := "bordereau/bordereaulaw16.BillOpens", spec := "billOpens", unfollowed := true, recurses := true, named := ["math/bits.divideError", "math/bits.overflowError"], apart := false }
def BillOpensSaid : Prop := billOpensRow.holds Try.pinned (OpenSpec.ofChange billOpensSpec)

/-- ITS FALSE NEIGHBOUR: 'it returns false'. Refute it at one input. -/
def billOpensWrong : ChangeSpec := { name := "billOpens", fn := fun _ => fun
  | [d1, d2, d3, d4] => { results := [.lit (.bool false)], args := [d1, d2, d3, d4] }
  | _ => none }
def BillOpensWrongFalsely : Prop := billOpensRow.holds Try.pinned (OpenSpec.ofChange billOpensWrong)

/-- 'bordereaulaw16.BillTurns': WHATEVER THE INPUT: true; the input reads as it did. -/
def billTurnsSpec : ChangeSpec := { name := "billTurns", fn := fun _ => fun
  | [d1, d2, d3] => { results := [.lit (.bool true)], args := [d1, d2, d3] }
  | _ => none }
def billTurnsRow : OpenClaim := { program := "ythkfedghiklmeaa", sum := "1a2c384600da2c267d1f4daef306a41563518435400e0bfcea3d74df05d68897", func := "bordereau/bordereaulaw16.BillTurns", spec := "billTurns", unfollowed := true, recurses := true, named := ["math/bits.divideError", "math/bits.overflowError"], apart := false }
def BillTurnsSaid : Prop := billTurnsRow.holds Try.pinned (OpenSpec.ofChange billTurnsSpec)

/-- ITS FALSE NEIGHBOUR: 'it returns false'. Refute it at one input. -/
def billTurnsWrong : ChangeSpec := { name := "billTurns", fn := fun _ => fun
  | [d1, d2, d3] => { results := [.lit (.bool false)], args := [d1, d2, d3] }
  | _ => none }
def BillTurnsWrongFalsely : Prop := billTurnsRow.holds Try.pinned (OpenSpec.ofChange billTurnsWrong)

/-- 'bordereaulaw16.BillSum': WHATEVER THE INPUT: true; the input reads as it did. -/
def billSumSpec : ChangeSpec := { name := "billSum", fn := fun _ => fun
  | [d1, d2, d3, d4, d5, d6] => { results := [.lit (.bool true)], args := [d1, d2, d3, d4, d5, d6] }
  | _ => none }
def billSumRow : OpenClaim := { program := "ythkfedghiklmeaa", sum := "1a2c384600da2c267d1f4daef306a41563518435400e0bfcea3d74df05d68897", func := "bordereau/bordereaulaw16.BillSum", spec := "billSum", unfollowed := true, recurses := true, named := ["math/bits.divideError", "math/bits.overflowError"], apart := false }
def BillSumSaid : Prop := billSumRow.holds Try.pinned (OpenSpec.ofChange billSumSpec)

/-- ITS FALSE NEIGHBOUR: 'it returns false'. Refute it at one input. -/
def billSumWrong : ChangeSpec := { name := "billSum", fn := fun _ => fun
  | [d1, d2, d3, d4, d5, d6] => { results := [.lit (.bool false)], args := [d1, d2, d3, d4, d5, d6] }
  | _ => none }
def BillSumWrongFalsely : Prop := billSumRow.holds Try.pinned (OpenSpec.ofChange billSumWrong)

/- THE SECOND FORM. 'bulk': how many values and letters a reading holds, each counted each time it is reached (what is shared counts as often as it is met; a slice's spare places count too). A statement '..UptoSaid' is the law's where the arguments, and the package variables that the reading takes, are together of bulk at most 1048576: NARROWER than '..Said'. Prove '..Said' where nothing that the law and all that it calls make is longer than what came in: it says more and counts as full. Else prove '..UptoSaid'. A law counts once. -/
mutual
def uptoBulk {H : Type} : DataW H → Nat
  | .lit (.string bytes) => bytes.length + 1
  | .lit _ => 1
  | .nil => 1
  | .ptr d => uptoBulk d + 1
  | .slice elems spare => uptoBulkAll elems + uptoBulkAll spare + 1
  | .agg parts => uptoBulkAll parts + 1
  | .iface _ d => uptoBulk d + 1
  | .map entries => uptoBulkEntries entries + 1
  | .held _ => 1
def uptoBulkAll {H : Type} : List (DataW H) → Nat
  | [] => 0
  | d :: r => uptoBulk d + uptoBulkAll r
def uptoBulkEntries {H : Type} : List (Lit × DataW H) → Nat
  | [] => 0
  | x :: r => uptoBulkEntry x + uptoBulkEntries r
def uptoBulkEntry {H : Type} : Lit × DataW H → Nat
  | (.string bytes, d) => bytes.length + uptoBulk d + 1
  | (_, d) => uptoBulk d + 1
 end
def uptoSmall : (H : Type) → List (DataW H) → Bool := fun _ ds => decide (uptoBulkAll ds ≤ 1048576)
def OpenSpec.upto (s : _root_.Go.ChangeSpec) : _root_.Go.OpenSpec := { _root_.Go.OpenSpec.ofChange s with cond := some uptoSmall }

/-- 'bordereaulaw16.BillPlans', WHERE WHAT IT READS IS OF BULK AT MOST 1048576: true; the input reads as it did. -/
def billPlansUptoRow : OpenClaim := { program := "ythkfedghiklmeaa", sum := "1a2c384600da2c267d1f4daef306a41563518435400e0bfcea3d74df05d68897", func := "bordereau/bordereaulaw16.BillPlans", spec := "billPlans", unfollowed := true, recurses := true, named := ["math/bits.divideError", "math/bits.overflowError"], apart := false, narrowed := true }
def BillPlansUptoSaid : Prop := billPlansUptoRow.holds Try.pinned (OpenSpec.upto billPlansSpec)

/-- 'bordereaulaw16.BillPays', WHERE WHAT IT READS IS OF BULK AT MOST 1048576: true; the input reads as it did. -/
def billPaysUptoRow : OpenClaim := { program := "ythkfedghiklmeaa", sum := "1a2c384600da2c267d1f4daef306a41563518435400e0bfcea3d74df05d68897", func := "bordereau/bordereaulaw16.BillPays", spec := "billPays", unfollowed := true, recurses := true, named := ["math/bits.divideError", "math/bits.overflowError"], apart := false, narrowed := true }
def BillPaysUptoSaid : Prop := billPaysUptoRow.holds Try.pinned (OpenSpec.upto billPaysSpec)

/-- 'bordereaulaw16.BillWhole', WHERE WHAT IT READS IS OF BULK AT MOST 1048576: true; the input reads as it did. -/
def billWholeUptoRow : OpenClaim := { program := "ythkfedghiklmeaa", sum := "1a2c384600da2c267d1f4daef306a41563518435400e0bfcea3d74df05d68897", func := "bordereau/bordereaulaw16.BillWhole", spec := "billWhole", unfollowed := true, recurses := true, named := ["math/bits.divideError", "math/bits.overflowError"], apart := false, narrowed := true }
def BillWholeUptoSaid : Prop := billWholeUptoRow.holds Try.pinned (OpenSpec.upto billWholeSpec)

/-- 'bordereaulaw16.BillOldest', WHERE WHAT IT READS IS OF BULK AT MOST 1048576: true; the input reads as it did. -/
def billOldestUptoRow : OpenClaim := { program := "ythkfedghiklmeaa", sum := "1a2c384600da2c267d1f4daef306a41563518435400e0bfcea3d74df05d68897", func := "bordereau/bordereaulaw16.BillOldest", spec := "billOldest", unfollowed := true, recurses := true, named := ["math/bits.divideError", "math/bits.overflowError"], apart := false, narrowed := true }
def BillOldestUptoSaid : Prop := billOldestUptoRow.holds Try.pinned (OpenSpec.upto billOldestSpec)

/-- 'bordereaulaw16.BillTwice', WHERE WHAT IT READS IS OF BULK AT MOST 1048576: true; the input reads as it did. -/
def billTwiceUptoRow : OpenClaim := { program := "ythkfedghiklmeaa", sum := "1a2c384600da2c267d1f4daef306a41563518435400e0bfcea3d74df05d68897", func := "bordereau/bordereaulaw16.BillTwice", spec := "billTwice", unfollowed := true, recurses := true, named := ["math/bits.divideError", "math/bits.overflowError"], apart := false, narrowed := true }
def BillTwiceUptoSaid : Prop := billTwiceUptoRow.holds Try.pinned (OpenSpec.upto billTwiceSpec)

/-- 'bordereaulaw16.BillOpens', WHERE WHAT IT READS IS OF BULK AT MOST 1048576: true; the input reads as it did. -/
def billOpensUptoRow : OpenClaim := { program := "ythkfedghiklmeaa", sum := "1a2c384600da2c267d1f4daef306a41563518435400e0bfcea3d74df05d68897", func := "bordereau/bordereaulaw16.BillOpens", spec := "billOpens", unfollowed := true, recurses := true, named := ["math/bits.divideError", "math/bits.overflowError"], apart := false, narrowed := true }
def BillOpensUptoSaid : Prop := billOpensUptoRow.holds Try.pinned (OpenSpec.upto billOpensSpec)

/-- 'bordereaulaw16.BillTurns', WHERE WHAT IT READS IS OF BULK AT MOST 1048576: true; the input reads as it did. -/
def billTurnsUptoRow : OpenClaim := { program := "ythkfedghiklmeaa", sum := "1a2c384600da2c267d1f4daef306a41563518435400e0bfcea3d74df05d68897", func := "bordereau/bordereaulaw16.BillTurns", spec := "billTurns", unfollowed := true, recurses := true, named := ["math/bits.divideError", "math/bits.overflowError"], apart := false, narrowed := true }
def BillTurnsUptoSaid : Prop := billTurnsUptoRow.holds Try.pinned (OpenSpec.upto billTurnsSpec)

/-- 'bordereaulaw16.BillSum', WHERE WHAT IT READS IS OF BULK AT MOST 1048576: true; the input reads as it did. -/
def billSumUptoRow : OpenClaim := { program := "ythkfedghiklmeaa", sum := "1a2c384600da2c267d1f4daef306a41563518435400e0bfcea3d74df05d68897", func := "bordereau/bordereaulaw16.BillSum", spec := "billSum", unfollowed := true, recurses := true, named := ["math/bits.divideError", "math/bits.overflowError"], apart := false, narrowed := true }
def BillSumUptoSaid : Prop := billSumUptoRow.holds Try.pinned (OpenSpec.upto billSumSpec)

end Rows
end Go.Proofs.Ythkfedghiklmeaa
