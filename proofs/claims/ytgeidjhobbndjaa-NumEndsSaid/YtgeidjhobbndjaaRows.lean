/-
  No cell of these rows narrows 'for every input' (looked for: loops, veiled, ifaces, maps, wideKeys, modest, calm, conditions, laid).
  DERIVED. THE GIVEN ROWS OF THIS SEAT. 9 by the template 'for every input the law returns true; each argument reads behind the call as it read before'; 0 by the template 'total and deterministic' (their statements: YtgeidjhobbndjaaTotals.lean).
  GIVEN WITH THE SEED: the statements are not yours to turn. If you find one false, say at which input.
  Laid BY PROGRAM, IN A SANDBOX (cutbox-rows.mjs): the forced cells as the released guide's own fill.sh prints them over the translation 666d55950b3977c3… (all of the seat's roots in one cut). By AI agents, Wed Nov 11 2026. No macro, syntax, notation, axiom, sorry.
-/
import Derived.Test.YtgeidjhobbndjaaChecked
import GoSem.Claim
import GoSem.ClaimJoined
import GoSem.ClaimMapViews
import Derived.JoinedTies
import Derived.KernelRfl
namespace Go.Proofs.Ytgeidjhobbndjaa
/- THE CELL 'sum', in the pinned program and in every row, IS THE sha256 OF THE DUMP (.gsa) THAT YtgeidjhobbndjaaProg.lean LOADS. Nothing in Lean hashes anything: it is a label: what it is worth is what the hold of that sum in a sandbox is worth. -/
noncomputable def Try.pinned : Pinned := { name := "ytgeidjhobbndjaa", sum := "666d55950b3977c3f6acf3a8131439fa925871c73ae5f45d8669524bf7aac25a", checked := Try.checked }
namespace Rows
def none {H : Type} : Left H := { results := [], args := [] }

/-- 'bordereaulaw01.NumDown': WHATEVER THE INPUT: true; the input reads as it did. -/
def numDownSpec : ChangeSpec := { name := "numDown", fn := fun _ => fun
  | [d1, d2, d3] => { results := [.lit (.bool true)], args := [d1, d2, d3] }
  | _ => none }
def numDownRow : OpenClaim := { program := "ytgeidjhobbndjaa", sum := "666d55950b3977c3f6acf3a8131439fa925871c73ae5f45d8669524bf7aac25a", func := "bordereau/bordereaulaw01.NumDown", spec := "numDown", unfollowed := true, recurses := true, named := ["math/bits.divideError", "math/bits.overflowError"], apart := false }
def NumDownSaid : Prop := numDownRow.holds Try.pinned (OpenSpec.ofChange numDownSpec)

/-- ITS FALSE NEIGHBOUR: 'it returns false'. Refute it at one input. -/
def numDownWrong : ChangeSpec := { name := "numDown", fn := fun _ => fun
  | [d1, d2, d3] => { results := [.lit (.bool false)], args := [d1, d2, d3] }
  | _ => none }
def NumDownWrongFalsely : Prop := numDownRow.holds Try.pinned (OpenSpec.ofChange numDownWrong)

/-- 'bordereaulaw01.NumEven': WHATEVER THE INPUT: true; the input reads as it did. -/
def numEvenSpec : ChangeSpec := { name := "numEven", fn := fun _ => fun
  | [d1, d2, d3] => { results := [.lit (.bool true)], args := [d1, d2, d3] }
  | _ => none }
def numEvenRow : OpenClaim := { program := "ytgeidjhobbndjaa", sum := "666d55950b3977c3f6acf3a8131439fa925871c73ae5f45d8669524bf7aac25a", func := "bordereau/bordereaulaw01.NumEven", spec := "numEven", unfollowed := true, recurses := true, named := ["math/bits.divideError", "math/bits.overflowError"], apart := false }
def NumEvenSaid : Prop := numEvenRow.holds Try.pinned (OpenSpec.ofChange numEvenSpec)

/-- ITS FALSE NEIGHBOUR: 'it returns false'. Refute it at one input. -/
def numEvenWrong : ChangeSpec := { name := "numEven", fn := fun _ => fun
  | [d1, d2, d3] => { results := [.lit (.bool false)], args := [d1, d2, d3] }
  | _ => none }
def NumEvenWrongFalsely : Prop := numEvenRow.holds Try.pinned (OpenSpec.ofChange numEvenWrong)

/-- 'bordereaulaw01.NumSplit': WHATEVER THE INPUT: true; the input reads as it did. -/
def numSplitSpec : ChangeSpec := { name := "numSplit", fn := fun _ => fun
  | [d1, d2] => { results := [.lit (.bool true)], args := [d1, d2] }
  | _ => none }
def numSplitRow : OpenClaim := { program := "ytgeidjhobbndjaa", sum := "666d55950b3977c3f6acf3a8131439fa925871c73ae5f45d8669524bf7aac25a", func := "bordereau/bordereaulaw01.NumSplit", spec := "numSplit", unfollowed := true, recurses := true, named := ["math/bits.divideError", "math/bits.overflowError"], apart := false }
def NumSplitSaid : Prop := numSplitRow.holds Try.pinned (OpenSpec.ofChange numSplitSpec)

/-- ITS FALSE NEIGHBOUR: 'it returns false'. Refute it at one input. -/
def numSplitWrong : ChangeSpec := { name := "numSplit", fn := fun _ => fun
  | [d1, d2] => { results := [.lit (.bool false)], args := [d1, d2] }
  | _ => none }
def NumSplitWrongFalsely : Prop := numSplitRow.holds Try.pinned (OpenSpec.ofChange numSplitWrong)

/-- 'bordereaulaw01.NumSums': WHATEVER THE INPUT: true; the input reads as it did. -/
def numSumsSpec : ChangeSpec := { name := "numSums", fn := fun _ => fun
  | [d1, d2] => { results := [.lit (.bool true)], args := [d1, d2] }
  | _ => none }
def numSumsRow : OpenClaim := { program := "ytgeidjhobbndjaa", sum := "666d55950b3977c3f6acf3a8131439fa925871c73ae5f45d8669524bf7aac25a", func := "bordereau/bordereaulaw01.NumSums", spec := "numSums", unfollowed := true, recurses := true, named := ["math/bits.divideError", "math/bits.overflowError"], apart := false }
def NumSumsSaid : Prop := numSumsRow.holds Try.pinned (OpenSpec.ofChange numSumsSpec)

/-- ITS FALSE NEIGHBOUR: 'it returns false'. Refute it at one input. -/
def numSumsWrong : ChangeSpec := { name := "numSums", fn := fun _ => fun
  | [d1, d2] => { results := [.lit (.bool false)], args := [d1, d2] }
  | _ => none }
def NumSumsWrongFalsely : Prop := numSumsRow.holds Try.pinned (OpenSpec.ofChange numSumsWrong)

/-- 'bordereaulaw01.NumFair': WHATEVER THE INPUT: true; the input reads as it did. -/
def numFairSpec : ChangeSpec := { name := "numFair", fn := fun _ => fun
  | [d1, d2] => { results := [.lit (.bool true)], args := [d1, d2] }
  | _ => none }
def numFairRow : OpenClaim := { program := "ytgeidjhobbndjaa", sum := "666d55950b3977c3f6acf3a8131439fa925871c73ae5f45d8669524bf7aac25a", func := "bordereau/bordereaulaw01.NumFair", spec := "numFair", unfollowed := true, recurses := true, named := ["math/bits.divideError", "math/bits.overflowError"], apart := false }
def NumFairSaid : Prop := numFairRow.holds Try.pinned (OpenSpec.ofChange numFairSpec)

/-- ITS FALSE NEIGHBOUR: 'it returns false'. Refute it at one input. -/
def numFairWrong : ChangeSpec := { name := "numFair", fn := fun _ => fun
  | [d1, d2] => { results := [.lit (.bool false)], args := [d1, d2] }
  | _ => none }
def NumFairWrongFalsely : Prop := numFairRow.holds Try.pinned (OpenSpec.ofChange numFairWrong)

/-- 'bordereaulaw01.NumNear': WHATEVER THE INPUT: true; the input reads as it did. -/
def numNearSpec : ChangeSpec := { name := "numNear", fn := fun _ => fun
  | [d1, d2, d3] => { results := [.lit (.bool true)], args := [d1, d2, d3] }
  | _ => none }
def numNearRow : OpenClaim := { program := "ytgeidjhobbndjaa", sum := "666d55950b3977c3f6acf3a8131439fa925871c73ae5f45d8669524bf7aac25a", func := "bordereau/bordereaulaw01.NumNear", spec := "numNear", unfollowed := true, recurses := true, named := ["math/bits.divideError", "math/bits.overflowError"], apart := false }
def NumNearSaid : Prop := numNearRow.holds Try.pinned (OpenSpec.ofChange numNearSpec)

/-- ITS FALSE NEIGHBOUR: 'it returns false'. Refute it at one input. -/
def numNearWrong : ChangeSpec := { name := "numNear", fn := fun _ => fun
  | [d1, d2, d3] => { results := [.lit (.bool false)], args := [d1, d2, d3] }
  | _ => none }
def NumNearWrongFalsely : Prop := numNearRow.holds Try.pinned (OpenSpec.ofChange numNearWrong)

/-- 'bordereaulaw01.NumOrder': WHATEVER THE INPUT: true; the input reads as it did. -/
def numOrderSpec : ChangeSpec := { name := "numOrder", fn := fun _ => fun
  | [d1, d2] => { results := [.lit (.bool true)], args := [d1, d2] }
  | _ => none }
def numOrderRow : OpenClaim := { program := "ytgeidjhobbndjaa", sum := "666d55950b3977c3f6acf3a8131439fa925871c73ae5f45d8669524bf7aac25a", func := "bordereau/bordereaulaw01.NumOrder", spec := "numOrder", unfollowed := true, recurses := true, named := ["math/bits.divideError", "math/bits.overflowError"], apart := false }
def NumOrderSaid : Prop := numOrderRow.holds Try.pinned (OpenSpec.ofChange numOrderSpec)

/-- ITS FALSE NEIGHBOUR: 'it returns false'. Refute it at one input. -/
def numOrderWrong : ChangeSpec := { name := "numOrder", fn := fun _ => fun
  | [d1, d2] => { results := [.lit (.bool false)], args := [d1, d2] }
  | _ => none }
def NumOrderWrongFalsely : Prop := numOrderRow.holds Try.pinned (OpenSpec.ofChange numOrderWrong)

/-- 'bordereaulaw01.NumTwice': WHATEVER THE INPUT: true; the input reads as it did. -/
def numTwiceSpec : ChangeSpec := { name := "numTwice", fn := fun _ => fun
  | [d1, d2, d3] => { results := [.lit (.bool true)], args := [d1, d2, d3] }
  | _ => none }
def numTwiceRow : OpenClaim := { program := "ytgeidjhobbndjaa", sum := "666d55950b3977c3f6acf3a8131439fa925871c73ae5f45d8669524bf7aac25a", func := "bordereau/bordereaulaw01.NumTwice", spec := "numTwice", unfollowed := true, recurses := true, named := ["math/bits.divideError", "math/bits.overflowError"], apart := false }
def NumTwiceSaid : Prop := numTwiceRow.holds Try.pinned (OpenSpec.ofChange numTwiceSpec)

/-- ITS FALSE NEIGHBOUR: 'it returns false'. Refute it at one input. -/
def numTwiceWrong : ChangeSpec := { name := "numTwice", fn := fun _ => fun
  | [d1, d2, d3] => { results := [.lit (.bool false)], args := [d1, d2, d3] }
  | _ => none }
def NumTwiceWrongFalsely : Prop := numTwiceRow.holds Try.pinned (OpenSpec.ofChange numTwiceWrong)

/-- 'bordereaulaw01.NumEnds': WHATEVER THE INPUT: true; the input reads as it did. -/
def numEndsSpec : ChangeSpec := { name := "numEnds", fn := fun _ => fun
  | [d1, d2, d3] => { results := [.lit (.bool true)], args := [d1, d2, d3] }
  | _ => none }
def numEndsRow : OpenClaim := { program := "ytgeidjhobbndjaa", sum := "666d55950b3977c3f6acf3a8131439fa925871c73ae5f45d8669524bf7aac25a", func := "bordereau/bordereaulaw01.NumEnds", spec := "numEnds", unfollowed := true, recurses := true, named := ["math/bits.divideError", "math/bits.overflowError"], apart := false }
def NumEndsSaid : Prop := numEndsRow.holds Try.pinned (OpenSpec.ofChange numEndsSpec)

/-- ITS FALSE NEIGHBOUR: 'it returns false'. Refute it at one input. -/
def numEndsWrong : ChangeSpec := { name := "numEnds", fn := fun _ => fun
  | [d1, d2, d3] => { results := [.lit (.bool false)], args := [d1, d2, d3] }
  | _ => none }
def NumEndsWrongFalsely : Prop := numEndsRow.holds Try.pinned (OpenSpec.ofChange numEndsWrong)

/- THE SECOND FORM. 'bulk': how many values and letters a reading holds, each counted each time it is reached (what is shared counts as often as it is met; a slice's spare places count too). A statement '..UptoSaid' is the law's where the arguments, and the package variables that the reading takes, are together of bulk at most 1048576: NARROWER than '..Said'. Prove '..Said' where nothing that the law and all that it calls make is longer than what came in: it says more and counts as full. Else prove '..UptoSaid'. A law counts once. -/
mutual
def uptoBulk {H : Type} : DataW H → Nat
  | .lit (.string bytes) => bytes.length + 1
  | .lit _ => 1
  | .nil => 1
  | .ptr d => uptoBulk d + 1
  | .slice elems spare => uptoBulkAll elems + uptoBulkAll spare + 1
  | .agg parts => uptoBulkAll parts + 1
  | .iface _ d => uptoBulk d + 1
  | .map entries => uptoBulkEntries entries + 1
  | .held _ => 1
def uptoBulkAll {H : Type} : List (DataW H) → Nat
  | [] => 0
  | d :: r => uptoBulk d + uptoBulkAll r
def uptoBulkEntries {H : Type} : List (Lit × DataW H) → Nat
  | [] => 0
  | x :: r => uptoBulkEntry x + uptoBulkEntries r
def uptoBulkEntry {H : Type} : Lit × DataW H → Nat
  | (.string bytes, d) => bytes.length + uptoBulk d + 1
  | (_, d) => uptoBulk d + 1
 end
def uptoSmall : (H : Type) → List (DataW H) → Bool := fun _ ds => decide (uptoBulkAll ds ≤ 1048576)
def OpenSpec.upto (s : _root_.Go.ChangeSpec) : _root_.Go.OpenSpec := { _root_.Go.OpenSpec.ofChange s with cond := some uptoSmall }

/-- 'bordereaulaw01.NumDown', WHERE WHAT IT READS IS OF BULK AT MOST 1048576: true; the input reads as it did. -/
def numDownUptoRow : OpenClaim := { program := "ytgeidjhobbndjaa", sum := "666d55950b3977c3f6acf3a8131439fa925871c73ae5f45d8669524bf7aac25a", func := "bordereau/bordereaulaw01.NumDown", spec := "numDown", unfollowed := true, recurses := true, named := ["math/bits.divideError", "math/bits.overflowError"], apart := false, narrowed := true }
def NumDownUptoSaid : Prop := numDownUptoRow.holds Try.pinned (OpenSpec.upto numDownSpec)

/-- 'bordereaulaw01.NumEven', WHERE WHAT IT READS IS OF BULK AT MOST 1048576: true; the input reads as it did. -/
def numEvenUptoRow : OpenClaim := { program := "ytgeidjhobbndjaa", sum := "666d55950b3977c3f6acf3a8131439fa925871c73ae5f45d8669524bf7aac25a", func := "bordereau/bordereaulaw01.NumEven", spec := "numEven", unfollowed := true, recurses := true, named := ["math/bits.divideError", "math/bits.overflowError"], apart := false, narrowed := true }
def NumEvenUptoSaid : Prop := numEvenUptoRow.holds Try.pinned (OpenSpec.upto numEvenSpec)

/-- 'bordereaulaw01.NumSplit', WHERE WHAT IT READS IS OF BULK AT MOST 1048576: true; the input reads as it did. -/
def numSplitUptoRow : OpenClaim := { program := "ytgeidjhobbndjaa", sum := "666d55950b3977c3f6acf3a8131439fa925871c73ae5f45d8669524bf7aac25a", func := "bordereau/bordereaulaw01.NumSplit", spec := "numSplit", unfollowed := true, recurses := true, named := ["math/bits.divideError", "math/bits.overflowError"], apart := false, narrowed := true }
def NumSplitUptoSaid : Prop := numSplitUptoRow.holds Try.pinned (OpenSpec.upto numSplitSpec)

/-- 'bordereaulaw01.NumSums', WHERE WHAT IT READS IS OF BULK AT MOST 1048576: true; the input reads as it did. -/
def numSumsUptoRow : OpenClaim := { program := "ytgeidjhobbndjaa", sum := "666d55950b3977c3f6acf3a8131439fa925871c73ae5f45d8669524bf7aac25a", func := "bordereau/bordereaulaw01.NumSums", spec := "numSums", unfollowed := true, recurses := true, named := ["math/bits.divideError", "math/bits.overflowError"], apart := false, narrowed := true }
def NumSumsUptoSaid : Prop := numSumsUptoRow.holds Try.pinned (OpenSpec.upto numSumsSpec)

/-- 'bordereaulaw01.NumFair', WHERE WHAT IT READS IS OF BULK AT MOST 1048576: true; the input reads as it did. -/
def numFairUptoRow : OpenClaim := { program := "ytgeidjhobbndjaa", sum := "666d55950b3977c3f6acf3a8131439fa925871c73ae5f45d8669524bf7aac25a", func := "bordereau/bordereaulaw01.NumFair", spec := "numFair", unfollowed := true, recurses := true, named := ["math/bits.divideError", "math/bits.overflowError"], apart := false, narrowed := true }
def NumFairUptoSaid : Prop := numFairUptoRow.holds Try.pinned (OpenSpec.upto numFairSpec)

/-- 'bordereaulaw01.NumNear', WHERE WHAT IT READS IS OF BULK AT MOST 1048576: true; the input reads as it did. -/
def numNearUptoRow : OpenClaim := { program := "ytgeidjhobbndjaa", sum := "666d55950b3977c3f6acf3a8131439fa925871c73ae5f45d8669524bf7aac25a", func := "bordereau/bordereaulaw01.NumNear", spec := "numNear", unfollowed := true, recurses := true, named := ["math/bits.divideError", "math/bits.overflowError"], apart := false, narrowed := true }
def NumNearUptoSaid : Prop := numNearUptoRow.holds Try.pinned (OpenSpec.upto numNearSpec)

/-- 'bordereaulaw01.NumOrder', WHERE WHAT IT READS IS OF BULK AT MOST 1048576: true; the input reads as it did. -/
def numOrderUptoRow : OpenClaim := { program := "ytgeidjhobbndjaa", sum := "666d55950b3977c3f6acf3a8131439fa925871c73ae5f45d8669524bf7aac25a", func := "bordereau/bordereaulaw01.NumOrder", spec := "numOrder", unfollowed := true, recurses := true, named := ["math/bits.divideError", "math/bits.overflowError"], apart := false, narrowed := true }
def NumOrderUptoSaid : Prop := numOrderUptoRow.holds Try.pinned (OpenSpec.upto numOrderSpec)

/-- 'bordereaulaw01.NumTwice', WHERE WHAT IT READS IS OF BULK AT MOST 1048576: true; the input reads as it did. -/
def numTwiceUptoRow : OpenClaim := { program := "ytgeidjhobbndjaa", sum := "666d55950b3977c3f6acf3a8131439fa925871c73ae5f45d8669524bf7aac25a", func := "bordereau/bordereaulaw01.NumTwice", spec := "numTwice", unfollowed := true, recurses := true, named := ["math/bits.divideError", "math/bits.overflowError"], apart := false, narrowed := true }
def NumTwiceUptoSaid : Prop := numTwiceUptoRow.holds Try.pinned (OpenSpec.upto numTwiceSpec)

/-- 'bordereaulaw01.NumEnds', WHERE WHAT IT READS IS OF BULK AT MOST 1048576: true; the input reads as it did. -/
def numEndsUptoRow : OpenClaim := { program := "ytgeidjhobbndjaa", sum := "666d55950b3977c3f6acf3a8131439fa925871c73ae5f45d8669524bf7aac25a", func := "bordereau/bordereaulaw01.NumEnds", spec := "numEnds", unfollowed := true, recurses := true, named := ["math/bits.divideError", "math/bits.overflowError"], apart := false, narrowed := true }
def NumEndsUptoSaid : Prop := numEndsUptoRow.holds Try.pinned (OpenSpec.upto numEndsSpec)

end Rows
end Go.Proofs.Ytgeidjhobbndjaa
