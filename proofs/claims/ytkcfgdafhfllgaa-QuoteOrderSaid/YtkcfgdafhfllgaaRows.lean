/-
  No cell of these rows narrows 'for every input' (looked for: loops, veiled, ifaces, maps, wideKeys, modest, calm, conditions, laid).
  DERIVED. THE GIVEN ROWS OF THIS SEAT. 6 by the template 'for every input the law returns true; each argument reads behind the call as it read before'; 0 by the template 'total and deterministic' (their statements: YtkcfgdafhfllgaaTotals.lean).
  GIVEN WITH THE SEED: the statements are not yours to turn. If you find one false, say at which input.
  Laid BY PROGRAM, IN A SANDBOX (cutbox-rows.mjs): the forced cells as the released guide's own fill.sh prints them over the translation 8462a34ab1e3c77a… (all of the seat's roots in one cut). By AI agents, Wed Nov 11 2026. No macro, syntax, notation, axiom, sorry.
-/
import Derived.Test.YtkcfgdafhfllgaaChecked
import GoSem.Claim
import GoSem.ClaimJoined
import GoSem.ClaimMapViews
import Derived.JoinedTies
import Derived.KernelRfl
namespace Go.Proofs.Ytkcfgdafhfllgaa
/- THE CELL 'sum', in the pinned program and in every row, IS THE sha256 OF THE DUMP (.gsa) THAT YtkcfgdafhfllgaaProg.lean LOADS. Nothing in Lean hashes anything: it is a label: what it is worth is what the hold of that sum in a sandbox is worth. -/
noncomputable def Try.pinned : Pinned := { name := "ytkcfgdafhfllgaa", sum := "8462a34ab1e3c77a0118baff01c54afcaf3244a490adc1e31eff028d5e3ad4ce", checked := Try.checked }
namespace Rows
def none {H : Type} : Left H := { results := [], args := [] }

/-- 'bordereaulaw09.QuoteOne': WHATEVER THE INPUT: true; the input reads as it did. -/
def quoteOneSpec : ChangeSpec := { name := "quoteOne", fn := fun _ => fun
  | [d1, d2, d3] => { results := [.lit (.bool true)], args := [d1, d2, d3] }
  | _ => none }
def quoteOneRow : OpenClaim := { program := "ytkcfgdafhfllgaa", sum := "8462a34ab1e3c77a0118baff01c54afcaf3244a490adc1e31eff028d5e3ad4ce", func := "bordereau/bordereaulaw09.QuoteOne", spec := "quoteOne", unfollowed := true, recurses := true, named := ["math/bits.divideError", "math/bits.overflowError"], apart := false }
def QuoteOneSaid : Prop := quoteOneRow.holds Try.pinned (OpenSpec.ofChange quoteOneSpec)

/-- ITS FALSE NEIGHBOUR: 'it returns false'. Refute it at one input. -/
def quoteOneWrong : ChangeSpec := { name := "quoteOne", fn := fun _ => fun
  | [d1, d2, d3] => { results := [.lit (.bool false)], args := [d1, d2, d3] }
  | _ => none }
def QuoteOneWrongFalsely : Prop := quoteOneRow.holds Try.pinned (OpenSpec.ofChange quoteOneWrong)

/-- 'bordereaulaw09.QuoteYear': WHATEVER THE INPUT: true; the input reads as it did. -/
def quoteYearSpec : ChangeSpec := { name := "quoteYear", fn := fun _ => fun
  | [d1, d2, d3] => { results := [.lit (.bool true)], args := [d1, d2, d3] }
  | _ => none }
def quoteYearRow : OpenClaim := { program := "ytkcfgdafhfllgaa", sum := "8462a34ab1e3c77a0118baff01c54afcaf3244a490adc1e31eff028d5e3ad4ce", func := "bordereau/bordereaulaw09.QuoteYear", spec := "quoteYear", unfollowed := true, recurses := true, named := ["math/bits.divideError", "math/bits.overflowError"], apart := false }
def QuoteYearSaid : Prop := quoteYearRow.holds Try.pinned (OpenSpec.ofChange quoteYearSpec)

/-- ITS FALSE NEIGHBOUR: 'it returns false'. Refute it at one input. -/
def quoteYearWrong : ChangeSpec := { name := "quoteYear", fn := fun _ => fun
  | [d1, d2, d3] => { results := [.lit (.bool false)], args := [d1, d2, d3] }
  | _ => none }
def QuoteYearWrongFalsely : Prop := quoteYearRow.holds Try.pinned (OpenSpec.ofChange quoteYearWrong)

/-- 'bordereaulaw09.QuoteMin': WHATEVER THE INPUT: true; the input reads as it did. -/
def quoteMinSpec : ChangeSpec := { name := "quoteMin", fn := fun _ => fun
  | [d1, d2, d3] => { results := [.lit (.bool true)], args := [d1, d2, d3] }
  | _ => none }
def quoteMinRow : OpenClaim := { program := "ytkcfgdafhfllgaa", sum := "8462a34ab1e3c77a0118baff01c54afcaf3244a490adc1e31eff028d5e3ad4ce", func := "bordereau/bordereaulaw09.QuoteMin", spec := "quoteMin", unfollowed := true, recurses := true, named := ["math/bits.divideError", "math/bits.overflowError"], apart := false }
def QuoteMinSaid : Prop := quoteMinRow.holds Try.pinned (OpenSpec.ofChange quoteMinSpec)

/-- ITS FALSE NEIGHBOUR: 'it returns false'. Refute it at one input. -/
def quoteMinWrong : ChangeSpec := { name := "quoteMin", fn := fun _ => fun
  | [d1, d2, d3] => { results := [.lit (.bool false)], args := [d1, d2, d3] }
  | _ => none }
def QuoteMinWrongFalsely : Prop := quoteMinRow.holds Try.pinned (OpenSpec.ofChange quoteMinWrong)

/-- 'bordereaulaw09.QuoteMore': WHATEVER THE INPUT: true; the input reads as it did. -/
def quoteMoreSpec : ChangeSpec := { name := "quoteMore", fn := fun _ => fun
  | [d1, d2, d3] => { results := [.lit (.bool true)], args := [d1, d2, d3] }
  | _ => none }
def quoteMoreRow : OpenClaim := { program := "ytkcfgdafhfllgaa", sum := "8462a34ab1e3c77a0118baff01c54afcaf3244a490adc1e31eff028d5e3ad4ce", func := "bordereau/bordereaulaw09.QuoteMore", spec := "quoteMore", unfollowed := true, recurses := true, named := ["math/bits.divideError", "math/bits.overflowError"], apart := false }
def QuoteMoreSaid : Prop := quoteMoreRow.holds Try.pinned (OpenSpec.ofChange quoteMoreSpec)

/-- ITS FALSE NEIGHBOUR: 'it returns false'. Refute it at one input. -/
def quoteMoreWrong : ChangeSpec := { name := "quoteMore", fn := fun _ => fun
  | [d1, d2, d3] => { results := [.lit (.bool false)], args := [d1, d2, d3] }
  | _ => none }
def QuoteMoreWrongFalsely : Prop := quoteMoreRow.holds Try.pinned (OpenSpec.ofChange quoteMoreWrong)

/-- 'bordereaulaw09.QuoteFactors': WHATEVER THE INPUT: true; the input reads as it did. -/
def quoteFactorsSpec : ChangeSpec := { name := "quoteFactors", fn := fun _ => fun
  | [d1, d2, d3] => { results := [.lit (.bool true)], args := [d1, d2, d3] }
  | _ => none }
def quoteFactorsRow : OpenClaim := { program := "ytkcfgdafhfllgaa", sum := "8462a34ab1e3c77a0118baff01c54afcaf3244a490adc1e31eff028d5e3ad4ce", func := "bordereau/bordereaulaw09.QuoteFactors", spec := "quoteFactors", unfollowed := true, recurses := true, named := ["math/bits.divideError", "math/bits.overflowError"], apart := false }
def QuoteFactorsSaid : Prop := quoteFactorsRow.holds Try.pinned (OpenSpec.ofChange quoteFactorsSpec)

/-- ITS FALSE NEIGHBOUR: 'it returns false'. Refute it at one input. -/
def quoteFactorsWrong : ChangeSpec := { name := "quoteFactors", fn := fun _ => fun
  | [d1, d2, d3] => { results := [.lit (.bool false)], args := [d1, d2, d3] }
  | _ => none }
def QuoteFactorsWrongFalsely : Prop := quoteFactorsRow.holds Try.pinned (OpenSpec.ofChange quoteFactorsWrong)

/-- 'bordereaulaw09.QuoteOrder': WHATEVER THE INPUT: true; the input reads as it did. -/
def quoteOrderSpec : ChangeSpec := { name := "quoteOrder", fn := fun _ => fun
  | [d1, d2, d3] => { results := [.lit (.bool true)], args := [d1, d2, d3] }
  | _ => none }
def quoteOrderRow : OpenClaim := { program := "ytkcfgdafhfllgaa", sum := "8462a34ab1e3c77a0118baff01c54afcaf3244a490adc1e31eff028d5e3ad4ce", func := "bordereau/bordereaulaw09.QuoteOrder", spec := "quoteOrder", unfollowed := true, recurses := true, named := ["math/bits.divideError", "math/bits.overflowError"], apart := false }
def QuoteOrderSaid : Prop := quoteOrderRow.holds Try.pinned (OpenSpec.ofChange quoteOrderSpec)

/-- ITS FALSE NEIGHBOUR: 'it returns false'. Refute it at one input. -/
def quoteOrderWrong : ChangeSpec := { name := "quoteOrder", fn := fun _ => fun
  | [d1, d2, d3] => { results := [.lit (.bool false)], args := [d1, d2, d3] }
  | _ => none }
def QuoteOrderWrongFalsely : Prop := quoteOrderRow.holds Try.pinned (OpenSpec.ofChange quoteOrderWrong)

/- THE SECOND FORM. 'bulk': how many values and letters a reading holds, each counted each time it is reached (what is shared counts as often as it is met; a slice's spare places count too). A statement '..UptoSaid' is the law's where the arguments, and the package variables that the reading takes, are together of bulk at most 1048576: NARROWER than '..Said'. Prove '..Said' where nothing that the law and all that it calls make is longer than what came in: it says more and counts as full. Else prove '..UptoSaid'. A law counts once. -/
mutual
def uptoBulk {H : Type} : DataW H → Nat
  | .lit (.string bytes) => bytes.length + 1
  | .lit _ => 1
  | .nil => 1
  | .ptr d => uptoBulk d + 1
  | .slice elems spare => uptoBulkAll elems + uptoBulkAll spare + 1
  | .agg parts => uptoBulkAll parts + 1
  | .iface _ d => uptoBulk d + 1
  | .map entries => uptoBulkEntries entries + 1
  | .held _ => 1
def uptoBulkAll {H : Type} : List (DataW H) → Nat
  | [] => 0
  | d :: r => uptoBulk d + uptoBulkAll r
def uptoBulkEntries {H : Type} : List (Lit × DataW H) → Nat
  | [] => 0
  | x :: r => uptoBulkEntry x + uptoBulkEntries r
def uptoBulkEntry {H : Type} : Lit × DataW H → Nat
  | (.string bytes, d) => bytes.length + uptoBulk d + 1
  | (_, d) => uptoBulk d + 1
 end
def uptoSmall : (H : Type) → List (DataW H) → Bool := fun _ ds => decide (uptoBulkAll ds ≤ 1048576)
def OpenSpec.upto (s : _root_.Go.ChangeSpec) : _root_.Go.OpenSpec := { _root_.Go.OpenSpec.ofChange s with cond := some uptoSmall }

/-- 'bordereaulaw09.QuoteOne', WHERE WHAT IT READS IS OF BULK AT MOST 1048576: true; the input reads as it did. -/
def quoteOneUptoRow : OpenClaim := { program := "ytkcfgdafhfllgaa", sum := "8462a34ab1e3c77a0118baff01c54afcaf3244a490adc1e31eff028d5e3ad4ce", func := "bordereau/bordereaulaw09.QuoteOne", spec := "quoteOne", unfollowed := true, recurses := true, named := ["math/bits.divideError", "math/bits.overflowError"], apart := false, narrowed := true }
def QuoteOneUptoSaid : Prop := quoteOneUptoRow.holds Try.pinned (OpenSpec.upto quoteOneSpec)

/-- 'bordereaulaw09.QuoteYear', WHERE WHAT IT READS IS OF BULK AT MOST 1048576: true; the input reads as it did. -/
def quoteYearUptoRow : OpenClaim := { program := "ytkcfgdafhfllgaa", sum := "8462a34ab1e3c77a0118baff01c54afcaf3244a490adc1e31eff028d5e3ad4ce", func := "bordereau/bordereaulaw09.QuoteYear", spec := "quoteYear", unfollowed := true, recurses := true, named := ["math/bits.divideError", "math/bits.overflowError"], apart := false, narrowed := true }
def QuoteYearUptoSaid : Prop := quoteYearUptoRow.holds Try.pinned (OpenSpec.upto quoteYearSpec)

/-- 'bordereaulaw09.QuoteMin', WHERE WHAT IT READS IS OF BULK AT MOST 1048576: true; the input reads as it did. -/
def quoteMinUptoRow : OpenClaim := { program := "ytkcfgdafhfllgaa", sum := "8462a34ab1e3c77a0118baff01c54afcaf3244a490adc1e31eff028d5e3ad4ce", func := "bordereau/bordereaulaw09.QuoteMin", spec := "quoteMin", unfollowed := true, recurses := true, named := ["math/bits.divideError", "math/bits.overflowError"], apart := false, narrowed := true }
def QuoteMinUptoSaid : Prop := quoteMinUptoRow.holds Try.pinned (OpenSpec.upto quoteMinSpec)

/-- 'bordereaulaw09.QuoteMore', WHERE WHAT IT READS IS OF BULK AT MOST 1048576: true; the input reads as it did. -/
def quoteMoreUptoRow : OpenClaim := { program := "ytkcfgdafhfllgaa", sum := "8462a34ab1e3c77a0118baff01c54afcaf3244a490adc1e31eff028d5e3ad4ce", func := "bordereau/bordereaulaw09.QuoteMore", spec := "quoteMore", unfollowed := true, recurses := true, named := ["math/bits.divideError", "math/bits.overflowError"], apart := false, narrowed := true }
def QuoteMoreUptoSaid : Prop := quoteMoreUptoRow.holds Try.pinned (OpenSpec.upto quoteMoreSpec)

/-- 'bordereaulaw09.QuoteFactors', WHERE WHAT IT READS IS OF BULK AT MOST 1048576: true; the input reads as it did. -/
def quoteFactorsUptoRow : OpenClaim := { program := "ytkcfgdafhfllgaa", sum := "8462a34ab1e3c77a0118baff01c54afcaf3244a490adc1e31eff028d5e3ad4ce", func := "bordereau/bordereaulaw09.QuoteFactors", spec := "quoteFactors", unfollowed := true, recurses := true, named := ["math/bits.divideError", "math/bits.overflowError"], apart := false, narrowed := true }
def QuoteFactorsUptoSaid : Prop := quoteFactorsUptoRow.holds Try.pinned (OpenSpec.upto quoteFactorsSpec)

/-- 'bordereaulaw09.QuoteOrder', WHERE WHAT IT READS IS OF BULK AT MOST 1048576: true; the input reads as it did. -/
def quoteOrderUptoRow : OpenClaim := { program := "ytkcfgdafhfllgaa", sum := "8462a34ab1e3c77a0118baff01c54afcaf3244a490adc1e31eff028d5e3ad4ce", func := "bordereau/bordereaulaw09.QuoteOrder", spec := "quoteOrder", unfollowed := true, recurses := true, named := ["math/bits.divideError", "math/bits.overflowError"], apart := false, narrowed := true }
def QuoteOrderUptoSaid : Prop := quoteOrderUptoRow.holds Try.pinned (OpenSpec.upto quoteOrderSpec)

end Rows
end Go.Proofs.Ytkcfgdafhfllgaa
