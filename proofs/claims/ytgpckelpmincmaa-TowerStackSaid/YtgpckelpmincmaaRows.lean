/-
  No cell of these rows narrows 'for every input' (looked for: loops, veiled, ifaces, maps, wideKeys, modest, calm, conditions, laid).
  DERIVED. THE GIVEN ROWS OF THIS SEAT. 6 by the template 'for every input the law returns true; each argument reads behind the call as it read before'; 0 by the template 'total and deterministic' (their statements: YtgpckelpmincmaaTotals.lean).
  GIVEN WITH THE SEED: the statements are not yours to turn. If you find one false, say at which input.
  Laid BY PROGRAM, IN A SANDBOX (cutbox-rows.mjs): the forced cells as the released guide's own fill.sh prints them over the translation d87957b44cc3209c… (all of the seat's roots in one cut). By AI agents, Wed Nov 11 2026. No macro, syntax, notation, axiom, sorry.
-/
import Derived.Test.YtgpckelpmincmaaChecked
import GoSem.Claim
import GoSem.ClaimJoined
import GoSem.ClaimMapViews
import Derived.JoinedTies
import Derived.KernelRfl
namespace Go.Proofs.Ytgpckelpmincmaa
/- THE CELL 'sum', in the pinned program and in every row, IS THE sha256 OF THE DUMP (.gsa) THAT YtgpckelpmincmaaProg.lean LOADS. Nothing in Lean hashes anything: it is a label: what it is worth is what the hold of that sum in a sandbox is worth. -/
noncomputable def Try.pinned : Pinned := { name := "ytgpckelpmincmaa", sum := "d87957b44cc3209caadf62df1aa6ddb64087a0f5a0b72c99210dd11adeb672bf", checked := Try.checked }
namespace Rows
def none {H : Type} : Left H := { results := [], args := [] }

/-- 'bordereaulaw26.TowerTells': WHATEVER THE INPUT: true; the input reads as it did. -/
def towerTellsSpec : ChangeSpec := { name := "towerTells", fn := fun _ => fun
  | [d1, d2] => { results := [.lit (.bool true)], args := [d1, d2] }
  | _ => none }
def towerTellsRow : OpenClaim := { program := "ytgpckelpmincmaa", sum := "d87957b44cc3209caadf62df1aa6ddb64087a0f5a0b72c99210dd11adeb672bf", func := "bordereau/bordereaulaw26.TowerTells", spec := "towerTells", unfollowed := true, recurses := true, named := ["math/bits.divideError", "math/bits.overflowError"], apart := false }
def TowerTellsSaid : Prop := towerTellsRow.holds Try.pinned (OpenSpec.ofChange towerTellsSpec)

/-- ITS FALSE NEIGHBOUR: 'it returns false'. Refute it at one input. -/
def towerTellsWrong : ChangeSpec := { name := "towerTells", fn := fun _ => fun
  | [d1, d2] => { results := [.lit (.bool false)], args := [d1, d2] }
  | _ => none }
def TowerTellsWrongFalsely : Prop := towerTellsRow.holds Try.pinned (OpenSpec.ofChange towerTellsWrong)

/-- 'bordereaulaw26.TowerWhole': WHATEVER THE INPUT: true; the input reads as it did. -/
def towerWholeSpec : ChangeSpec := { name := "towerWhole", fn := fun _ => fun
  | [d1, d2] => { results := [.lit (.bool true)], args := [d1, d2] }
  | _ => none }
def towerWholeRow : OpenClaim := { program := "ytgpckelpmincmaa", sum := "d87957b44cc3209caadf62df1aa6ddb64087a0f5a0b72c99210dd11adeb672bf", func := "bordereau/bordereaulaw26.TowerWhole", spec := "towerWhole", unfollowed := true, recurses := true, named := ["math/bits.divideError", "math/bits.overflowError"], apart := false }
def TowerWholeSaid : Prop := towerWholeRow.holds Try.pinned (OpenSpec.ofChange towerWholeSpec)

/-- ITS FALSE NEIGHBOUR: 'it returns false'. Refute it at one input. -/
def towerWholeWrong : ChangeSpec := { name := "towerWhole", fn := fun _ => fun
  | [d1, d2] => { results := [.lit (.bool false)], args := [d1, d2] }
  | _ => none }
def TowerWholeWrongFalsely : Prop := towerWholeRow.holds Try.pinned (OpenSpec.ofChange towerWholeWrong)

/-- 'bordereaulaw26.TowerBounds': WHATEVER THE INPUT: true; the input reads as it did. -/
def towerBoundsSpec : ChangeSpec := { name := "towerBounds", fn := fun _ => fun
  | [d1, d2] => { results := [.lit (.bool true)], args := [d1, d2] }
  | _ => none }
def towerBoundsRow : OpenClaim := { program := "ytgpckelpmincmaa", sum := "d87957b44cc3209caadf62df1aa6ddb64087a0f5a0b72c99210dd11adeb672bf", func := "bordereau/bordereaulaw26.TowerBounds", spec := "towerBounds", unfollowed := true, recurses := true, named := ["math/bits.divideError", "math/bits.overflowError"], apart := false }
def TowerBoundsSaid : Prop := towerBoundsRow.holds Try.pinned (OpenSpec.ofChange towerBoundsSpec)

/-- ITS FALSE NEIGHBOUR: 'it returns false'. Refute it at one input. -/
def towerBoundsWrong : ChangeSpec := { name := "towerBounds", fn := fun _ => fun
  | [d1, d2] => { results := [.lit (.bool false)], args := [d1, d2] }
  | _ => none }
def TowerBoundsWrongFalsely : Prop := towerBoundsRow.holds Try.pinned (OpenSpec.ofChange towerBoundsWrong)

/-- 'bordereaulaw26.TowerQuotas': WHATEVER THE INPUT: true; the input reads as it did. -/
def towerQuotasSpec : ChangeSpec := { name := "towerQuotas", fn := fun _ => fun
  | [d1, d2] => { results := [.lit (.bool true)], args := [d1, d2] }
  | _ => none }
def towerQuotasRow : OpenClaim := { program := "ytgpckelpmincmaa", sum := "d87957b44cc3209caadf62df1aa6ddb64087a0f5a0b72c99210dd11adeb672bf", func := "bordereau/bordereaulaw26.TowerQuotas", spec := "towerQuotas", unfollowed := true, recurses := true, named := ["math/bits.divideError", "math/bits.overflowError"], apart := false }
def TowerQuotasSaid : Prop := towerQuotasRow.holds Try.pinned (OpenSpec.ofChange towerQuotasSpec)

/-- ITS FALSE NEIGHBOUR: 'it returns false'. Refute it at one input. -/
def towerQuotasWrong : ChangeSpec := { name := "towerQuotas", fn := fun _ => fun
  | [d1, d2] => { results := [.lit (.bool false)], args := [d1, d2] }
  | _ => none }
def TowerQuotasWrongFalsely : Prop := towerQuotasRow.holds Try.pinned (OpenSpec.ofChange towerQuotasWrong)

/-- 'bordereaulaw26.TowerMore': WHATEVER THE INPUT: true; the input reads as it did. -/
def towerMoreSpec : ChangeSpec := { name := "towerMore", fn := fun _ => fun
  | [d1, d2, d3] => { results := [.lit (.bool true)], args := [d1, d2, d3] }
  | _ => none }
def towerMoreRow : OpenClaim := { program := "ytgpckelpmincmaa", sum := "d87957b44cc3209caadf62df1aa6ddb64087a0f5a0b72c99210dd11adeb672bf", func := "bordereau/bordereaulaw26.TowerMore", spec := "towerMore", unfollowed := true, recurses := true, named := ["math/bits.divideError", "math/bits.overflowError"], apart := false }
def TowerMoreSaid : Prop := towerMoreRow.holds Try.pinned (OpenSpec.ofChange towerMoreSpec)

/-- ITS FALSE NEIGHBOUR: 'it returns false'. Refute it at one input. -/
def towerMoreWrong : ChangeSpec := { name := "towerMore", fn := fun _ => fun
  | [d1, d2, d3] => { results := [.lit (.bool false)], args := [d1, d2, d3] }
  | _ => none }
def TowerMoreWrongFalsely : Prop := towerMoreRow.holds Try.pinned (OpenSpec.ofChange towerMoreWrong)

/-- 'bordereaulaw26.TowerStack': WHATEVER THE INPUT: true; the input reads as it did. -/
def towerStackSpec : ChangeSpec := { name := "towerStack", fn := fun _ => fun
  | [d1, d2, d3, d4, d5] => { results := [.lit (.bool true)], args := [d1, d2, d3, d4, d5] }
  | _ => none }
def towerStackRow : OpenClaim := { program := "ytgpckelpmincmaa", sum := "d87957b44cc3209caadf62df1aa6ddb64087a0f5a0b72c99210dd11adeb672bf", func := "bordereau/bordereaulaw26.TowerStack", spec := "towerStack", unfollowed := true, recurses := true, named := ["math/bits.divideError", "math/bits.overflowError"], apart := false }
def TowerStackSaid : Prop := towerStackRow.holds Try.pinned (OpenSpec.ofChange towerStackSpec)

/-- ITS FALSE NEIGHBOUR: 'it returns false'. Refute it at one input. -/
def towerStackWrong : ChangeSpec := { name := "towerStack", fn := fun _ => fun
  | [d1, d2, d3, d4, d5] => { results := [.lit (.bool false)], args := [d1, d2, d3, d4, d5] }
  | _ => none }
def TowerStackWrongFalsely : Prop := towerStackRow.holds Try.pinned (OpenSpec.ofChange towerStackWrong)

/- THE SECOND FORM. 'bulk': how many values and letters a reading holds, each counted each time it is reached (what is shared counts as often as it is met; a slice's spare places count too). A statement '..UptoSaid' is the law's where the arguments, and the package variables that the reading takes, are together of bulk at most 1048576: NARROWER than '..Said'. Prove '..Said' where nothing that the law and all that it calls make is longer than what came in: it says more and counts as full. Else prove '..UptoSaid'. A law counts once. -/
mutual
def uptoBulk {H : Type} : DataW H → Nat
  | .lit (.string bytes) => bytes.length + 1
  | .lit _ => 1
  | .nil => 1
  | .ptr d => uptoBulk d + 1
  | .slice elems spare => uptoBulkAll elems + uptoBulkAll spare + 1
  | .agg parts => uptoBulkAll parts + 1
  | .iface _ d => uptoBulk d + 1
  | .map entries => uptoBulkEntries entries + 1
  | .held _ => 1
def uptoBulkAll {H : Type} : List (DataW H) → Nat
  | [] => 0
  | d :: r => uptoBulk d + uptoBulkAll r
def uptoBulkEntries {H : Type} : List (Lit × DataW H) → Nat
  | [] => 0
  | x :: r => uptoBulkEntry x + uptoBulkEntries r
def uptoBulkEntry {H : Type} : Lit × DataW H → Nat
  | (.string bytes, d) => bytes.length + uptoBulk d + 1
  | (_, d) => uptoBulk d + 1
 end
def uptoSmall : (H : Type) → List (DataW H) → Bool := fun _ ds => decide (uptoBulkAll ds ≤ 1048576)
def OpenSpec.upto (s : _root_.Go.ChangeSpec) : _root_.Go.OpenSpec := { _root_.Go.OpenSpec.ofChange s with cond := some uptoSmall }

/-- 'bordereaulaw26.TowerTells', WHERE WHAT IT READS IS OF BULK AT MOST 1048576: true; the input reads as it did. -/
def towerTellsUptoRow : OpenClaim := { program := "ytgpckelpmincmaa", sum := "d87957b44cc3209caadf62df1aa6ddb64087a0f5a0b72c99210dd11adeb672bf", func := "bordereau/bordereaulaw26.TowerTells", spec := "towerTells", unfollowed := true, recurses := true, named := ["math/bits.divideError", "math/bits.overflowError"], apart := false, narrowed := true }
def TowerTellsUptoSaid : Prop := towerTellsUptoRow.holds Try.pinned (OpenSpec.upto towerTellsSpec)

/-- 'bordereaulaw26.TowerWhole', WHERE WHAT IT READS IS OF BULK AT MOST 1048576: true; the input reads as it did. -/
def towerWholeUptoRow : OpenClaim := { program := "ytgpckelpmincmaa", sum := "d87957b44cc3209caadf62df1aa6ddb64087a0f5a0b72c99210dd11adeb672bf", func := "bordereau/bordereaulaw26.TowerWhole", spec := "towerWhole", unfollowed := true, recurses := true, named := ["math/bits.divideError", "math/bits.overflowError"], apart := false, narrowed := true }
def TowerWholeUptoSaid : Prop := towerWholeUptoRow.holds Try.pinned (OpenSpec.upto towerWholeSpec)

/-- 'bordereaulaw26.TowerBounds', WHERE WHAT IT READS IS OF BULK AT MOST 1048576: true; the input reads as it did. -/
def towerBoundsUptoRow : OpenClaim := { program := "ytgpckelpmincmaa", sum := "d87957b44cc3209caadf62df1aa6ddb64087a0f5a0b72c99210dd11adeb672bf", func := "bordereau/bordereaulaw26.TowerBounds", spec := "towerBounds", unfollowed := true, recurses := true, named := ["math/bits.divideError", "math/bits.overflowError"], apart := false, narrowed := true }
def TowerBoundsUptoSaid : Prop := towerBoundsUptoRow.holds Try.pinned (OpenSpec.upto towerBoundsSpec)

/-- 'bordereaulaw26.TowerQuotas', WHERE WHAT IT READS IS OF BULK AT MOST 1048576: true; the input reads as it did. -/
def towerQuotasUptoRow : OpenClaim := { program := "ytgpckelpmincmaa", sum := "d87957b44cc3209caadf62df1aa6ddb64087a0f5a0b72c99210dd11adeb672bf", func := "bordereau/bordereaulaw26.TowerQuotas", spec := "towerQuotas", unfollowed := true, recurses := true, named := ["math/bits.divideError", "math/bits.overflowError"], apart := false, narrowed := true }
def TowerQuotasUptoSaid : Prop := towerQuotasUptoRow.holds Try.pinned (OpenSpec.upto towerQuotasSpec)

/-- 'bordereaulaw26.TowerMore', WHERE WHAT IT READS IS OF BULK AT MOST 1048576: true; the input reads as it did. -/
def towerMoreUptoRow : OpenClaim := { program := "ytgpckelpmincmaa", sum := "d87957b44cc3209caadf62df1aa6ddb64087a0f5a0b72c99210dd11adeb672bf", func := "bordereau/bordereaulaw26.TowerMore", spec := "towerMore", unfollowed := true, recurses := true, named := ["math/bits.divideError", "math/bits.overflowError"], apart := false, narrowed := true }
def TowerMoreUptoSaid : Prop := towerMoreUptoRow.holds Try.pinned (OpenSpec.upto towerMoreSpec)

/-- 'bordereaulaw26.TowerStack', WHERE WHAT IT READS IS OF BULK AT MOST 1048576: true; the input reads as it did. -/
def towerStackUptoRow : OpenClaim := { program := "ytgpckelpmincmaa", sum := "d87957b44cc3209caadf62df1aa6ddb64087a0f5a0b72c99210dd11adeb672bf", func := "bordereau/bordereaulaw26.TowerStack", spec := "towerStack", unfollowed := true, recurses := true, named := ["math/bits.divideError", "math/bits.overflowError"], apart := false, narrowed := true }
def TowerStackUptoSaid : Prop := towerStackUptoRow.holds Try.pinned (OpenSpec.upto towerStackSpec)

end Rows
end Go.Proofs.Ytgpckelpmincmaa
