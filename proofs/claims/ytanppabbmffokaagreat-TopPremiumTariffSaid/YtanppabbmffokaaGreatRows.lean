/-
  No cell of these rows narrows 'for every input' (looked for: loops, veiled, ifaces, maps, wideKeys, modest, calm, conditions, laid).
  DERIVED. THE GIVEN ROWS OF THIS SEAT. 5 by the template 'for every input the law returns true; each argument reads behind the call as it read before'; 0 by the template 'total and deterministic' (their statements: YtanppabbmffokaaGreatTotals.lean).
  GIVEN WITH THE SEED: the statements are not yours to turn. If you find one false, say at which input.
  Laid BY PROGRAM, IN A SANDBOX (cutbox-rows.mjs): the forced cells as the released guide's own fill.sh prints them over the translation 9d1679780ae7786d… (all of the seat's roots in one cut). By AI agents, Wed Nov 11 2026. No macro, syntax, notation, axiom, sorry.
-/
import Derived.Test.YtanppabbmffokaaGreatChecked
import GoSem.Claim
import GoSem.ClaimJoined
import GoSem.ClaimMapViews
import Derived.JoinedTies
import Derived.KernelRfl
namespace Go.Proofs.YtanppabbmffokaaGreat
/- THE CELL 'sum', in the pinned program and in every row, IS THE sha256 OF THE DUMP (.gsa) THAT YtanppabbmffokaaGreatProg.lean LOADS. Nothing in Lean hashes anything: it is a label: what it is worth is what the hold of that sum in a sandbox is worth. -/
noncomputable def Tryz.pinned : Pinned := { name := "ytanppabbmffokaagreat", sum := "9d1679780ae7786d5d60b7b92cdb1a9b007d6225a312299b5f20baf3047bbbb0", checked := Tryz.checked }
namespace Rows
def none {H : Type} : Left H := { results := [], args := [] }

/-- 'bordereautop.TopPremiumBills': WHATEVER THE INPUT: true; the input reads as it did. -/
def topPremiumBillsSpec : ChangeSpec := { name := "topPremiumBills", fn := fun _ => fun
  | [d1, d2, d3, d4, d5] => { results := [.lit (.bool true)], args := [d1, d2, d3, d4, d5] }
  | _ => none }
def topPremiumBillsRow : OpenClaim := { program := "ytanppabbmffokaagreat", sum := "9d1679780ae7786d5d60b7b92cdb1a9b007d6225a312299b5f20baf3047bbbb0", func := "bordereau/bordereautop.TopPremiumBills", spec := "topPremiumBills", unfollowed := true, recurses := true, named := ["math/bits.divideError", "math/bits.overflowError"], apart := false }
def TopPremiumBillsSaid : Prop := topPremiumBillsRow.holds Tryz.pinned (OpenSpec.ofChange topPremiumBillsSpec)

/-- ITS FALSE NEIGHBOUR: 'it returns false'. Refute it at one input. -/
def topPremiumBillsWrong : ChangeSpec := { name := "topPremiumBills", fn := fun _ => fun
  | [d1, d2, d3, d4, d5] => { results := [.lit (.bool false)], args := [d1, d2, d3, d4, d5] }
  | _ => none }
def TopPremiumBillsWrongFalsely : Prop := topPremiumBillsRow.holds Tryz.pinned (OpenSpec.ofChange topPremiumBillsWrong)

/-- 'bordereautop.TopKnownNever': WHATEVER THE INPUT: true; the input reads as it did. -/
def topKnownNeverSpec : ChangeSpec := { name := "topKnownNever", fn := fun _ => fun
  | [d1, d2, d3, d4, d5, d6] => { results := [.lit (.bool true)], args := [d1, d2, d3, d4, d5, d6] }
  | _ => none }
def topKnownNeverRow : OpenClaim := { program := "ytanppabbmffokaagreat", sum := "9d1679780ae7786d5d60b7b92cdb1a9b007d6225a312299b5f20baf3047bbbb0", func := "bordereau/bordereautop.TopKnownNever", spec := "topKnownNever", unfollowed := true, recurses := true, named := ["math/bits.divideError", "math/bits.overflowError"], apart := false }
def TopKnownNeverSaid : Prop := topKnownNeverRow.holds Tryz.pinned (OpenSpec.ofChange topKnownNeverSpec)

/-- ITS FALSE NEIGHBOUR: 'it returns false'. Refute it at one input. -/
def topKnownNeverWrong : ChangeSpec := { name := "topKnownNever", fn := fun _ => fun
  | [d1, d2, d3, d4, d5, d6] => { results := [.lit (.bool false)], args := [d1, d2, d3, d4, d5, d6] }
  | _ => none }
def TopKnownNeverWrongFalsely : Prop := topKnownNeverRow.holds Tryz.pinned (OpenSpec.ofChange topKnownNeverWrong)

/-- 'bordereautop.TopPremiumTariff': WHATEVER THE INPUT: true; the input reads as it did. -/
def topPremiumTariffSpec : ChangeSpec := { name := "topPremiumTariff", fn := fun _ => fun
  | [d1, d2, d3, d4] => { results := [.lit (.bool true)], args := [d1, d2, d3, d4] }
  | _ => none }
def topPremiumTariffRow : OpenClaim := { program := "ytanppabbmffokaagreat", sum := "9d1679780ae7786d5d60b7b92cdb1a9b007d6225a312299b5f20baf3047bbbb0", func := "bordereau/bordereautop.TopPremiumTariff", spec := "topPremiumTariff", inPlace := ["slices.overlaps[bordereau/api.Version]"], unfollowed := true, recurses := true, named := ["math/bits.divideError", "math/bits.overflowError"], apart := false }
def TopPremiumTariffSaid : Prop := topPremiumTariffRow.holds Tryz.pinned (OpenSpec.ofChange topPremiumTariffSpec)

/-- ITS FALSE NEIGHBOUR: 'it returns false'. Refute it at one input. -/
def topPremiumTariffWrong : ChangeSpec := { name := "topPremiumTariff", fn := fun _ => fun
  | [d1, d2, d3, d4] => { results := [.lit (.bool false)], args := [d1, d2, d3, d4] }
  | _ => none }
def TopPremiumTariffWrongFalsely : Prop := topPremiumTariffRow.holds Tryz.pinned (OpenSpec.ofChange topPremiumTariffWrong)

/-- 'bordereautop.TopPremiumMonths': WHATEVER THE INPUT: true; the input reads as it did. -/
def topPremiumMonthsSpec : ChangeSpec := { name := "topPremiumMonths", fn := fun _ => fun
  | [d1, d2, d3] => { results := [.lit (.bool true)], args := [d1, d2, d3] }
  | _ => none }
def topPremiumMonthsRow : OpenClaim := { program := "ytanppabbmffokaagreat", sum := "9d1679780ae7786d5d60b7b92cdb1a9b007d6225a312299b5f20baf3047bbbb0", func := "bordereau/bordereautop.TopPremiumMonths", spec := "topPremiumMonths", unfollowed := true, recurses := true, named := ["math/bits.divideError", "math/bits.overflowError"], apart := false }
def TopPremiumMonthsSaid : Prop := topPremiumMonthsRow.holds Tryz.pinned (OpenSpec.ofChange topPremiumMonthsSpec)

/-- ITS FALSE NEIGHBOUR: 'it returns false'. Refute it at one input. -/
def topPremiumMonthsWrong : ChangeSpec := { name := "topPremiumMonths", fn := fun _ => fun
  | [d1, d2, d3] => { results := [.lit (.bool false)], args := [d1, d2, d3] }
  | _ => none }
def TopPremiumMonthsWrongFalsely : Prop := topPremiumMonthsRow.holds Tryz.pinned (OpenSpec.ofChange topPremiumMonthsWrong)

/-- 'bordereautop.TopKnownMoved': WHATEVER THE INPUT: true; the input reads as it did. -/
def topKnownMovedSpec : ChangeSpec := { name := "topKnownMoved", fn := fun _ => fun
  | [d1, d2, d3, d4] => { results := [.lit (.bool true)], args := [d1, d2, d3, d4] }
  | _ => none }
def topKnownMovedRow : OpenClaim := { program := "ytanppabbmffokaagreat", sum := "9d1679780ae7786d5d60b7b92cdb1a9b007d6225a312299b5f20baf3047bbbb0", func := "bordereau/bordereautop.TopKnownMoved", spec := "topKnownMoved", unfollowed := true, recurses := true, named := ["math/bits.divideError", "math/bits.overflowError"], apart := false }
def TopKnownMovedSaid : Prop := topKnownMovedRow.holds Tryz.pinned (OpenSpec.ofChange topKnownMovedSpec)

/-- ITS FALSE NEIGHBOUR: 'it returns false'. Refute it at one input. -/
def topKnownMovedWrong : ChangeSpec := { name := "topKnownMoved", fn := fun _ => fun
  | [d1, d2, d3, d4] => { results := [.lit (.bool false)], args := [d1, d2, d3, d4] }
  | _ => none }
def TopKnownMovedWrongFalsely : Prop := topKnownMovedRow.holds Tryz.pinned (OpenSpec.ofChange topKnownMovedWrong)

/- THE SECOND FORM. 'bulk': how many values and letters a reading holds, each counted each time it is reached (what is shared counts as often as it is met; a slice's spare places count too). A statement '..UptoSaid' is the law's where the arguments, and the package variables that the reading takes, are together of bulk at most 1048576: NARROWER than '..Said'. Prove '..Said' where nothing that the law and all that it calls make is longer than what came in: it says more and counts as full. Else prove '..UptoSaid'. A law counts once. -/
mutual
def uptoBulk {H : Type} : DataW H → Nat
  | .lit (.string bytes) => bytes.length + 1
  | .lit _ => 1
  | .nil => 1
  | .ptr d => uptoBulk d + 1
  | .slice elems spare => uptoBulkAll elems + uptoBulkAll spare + 1
  | .agg parts => uptoBulkAll parts + 1
  | .iface _ d => uptoBulk d + 1
  | .map entries => uptoBulkEntries entries + 1
  | .held _ => 1
def uptoBulkAll {H : Type} : List (DataW H) → Nat
  | [] => 0
  | d :: r => uptoBulk d + uptoBulkAll r
def uptoBulkEntries {H : Type} : List (Lit × DataW H) → Nat
  | [] => 0
  | x :: r => uptoBulkEntry x + uptoBulkEntries r
def uptoBulkEntry {H : Type} : Lit × DataW H → Nat
  | (.string bytes, d) => bytes.length + uptoBulk d + 1
  | (_, d) => uptoBulk d + 1
 end
def uptoSmall : (H : Type) → List (DataW H) → Bool := fun _ ds => decide (uptoBulkAll ds ≤ 1048576)
def OpenSpec.upto (s : _root_.Go.ChangeSpec) : _root_.Go.OpenSpec := { _root_.Go.OpenSpec.ofChange s with cond := some uptoSmall }

/-- 'bordereautop.TopPremiumBills', WHERE WHAT IT READS IS OF BULK AT MOST 1048576: true; the input reads as it did. -/
def topPremiumBillsUptoRow : OpenClaim := { program := "ytanppabbmffokaagreat", sum := "9d1679780ae7786d5d60b7b92cdb1a9b007d6225a312299b5f20baf3047bbbb0", func := "bordereau/bordereautop.TopPremiumBills", spec := "topPremiumBills", unfollowed := true, recurses := true, named := ["math/bits.divideError", "math/bits.overflowError"], apart := false, narrowed := true }
def TopPremiumBillsUptoSaid : Prop := topPremiumBillsUptoRow.holds Tryz.pinned (OpenSpec.upto topPremiumBillsSpec)

/-- 'bordereautop.TopKnownNever', WHERE WHAT IT READS IS OF BULK AT MOST 1048576: true; the input reads as it did. -/
def topKnownNeverUptoRow : OpenClaim := { program := "ytanppabbmffokaagreat", sum := "9d1679780ae7786d5d60b7b92cdb1a9b007d6225a312299b5f20baf3047bbbb0", func := "bordereau/bordereautop.TopKnownNever", spec := "topKnownNever", unfollowed := true, recurses := true, named := ["math/bits.divideError", "math/bits.overflowError"], apart := false, narrowed := true }
def TopKnownNeverUptoSaid : Prop := topKnownNeverUptoRow.holds Tryz.pinned (OpenSpec.upto topKnownNeverSpec)

/-- 'bordereautop.TopPremiumTariff', WHERE WHAT IT READS IS OF BULK AT MOST 1048576: true; the input reads as it did. -/
def topPremiumTariffUptoRow : OpenClaim := { program := "ytanppabbmffokaagreat", sum := "9d1679780ae7786d5d60b7b92cdb1a9b007d6225a312299b5f20baf3047bbbb0", func := "bordereau/bordereautop.TopPremiumTariff", spec := "topPremiumTariff", inPlace := ["slices.overlaps[bordereau/api.Version]"], unfollowed := true, recurses := true, named := ["math/bits.divideError", "math/bits.overflowError"], apart := false, narrowed := true }
def TopPremiumTariffUptoSaid : Prop := topPremiumTariffUptoRow.holds Tryz.pinned (OpenSpec.upto topPremiumTariffSpec)

/-- 'bordereautop.TopPremiumMonths', WHERE WHAT IT READS IS OF BULK AT MOST 1048576: true; the input reads as it did. -/
def topPremiumMonthsUptoRow : OpenClaim := { program := "ytanppabbmffokaagreat", sum := "9d1679780ae7786d5d60b7b92cdb1a9b007d6225a312299b5f20baf3047bbbb0", func := "bordereau/bordereautop.TopPremiumMonths", spec := "topPremiumMonths", unfollowed := true, recurses := true, named := ["math/bits.divideError", "math/bits.overflowError"], apart := false, narrowed := true }
def TopPremiumMonthsUptoSaid : Prop := topPremiumMonthsUptoRow.holds Tryz.pinned (OpenSpec.upto topPremiumMonthsSpec)

/-- 'bordereautop.TopKnownMoved', WHERE WHAT IT READS IS OF BULK AT MOST 1048576: true; the input reads as it did. -/
def topKnownMovedUptoRow : OpenClaim := { program := "ytanppabbmffokaagreat", sum := "9d1679780ae7786d5d60b7b92cdb1a9b007d6225a312299b5f20baf3047bbbb0", func := "bordereau/bordereautop.TopKnownMoved", spec := "topKnownMoved", unfollowed := true, recurses := true, named := ["math/bits.divideError", "math/bits.overflowError"], apart := false, narrowed := true }
def TopKnownMovedUptoSaid : Prop := topKnownMovedUptoRow.holds Tryz.pinned (OpenSpec.upto topKnownMovedSpec)

end Rows
end Go.Proofs.YtanppabbmffokaaGreat
