/-
  No cell of these rows narrows 'for every input' (looked for: loops, veiled, ifaces, maps, wideKeys, modest, calm, conditions, laid).
  DERIVED. THE GIVEN ROWS OF THIS SEAT. 11 by the template 'for every input the law returns true; each argument reads behind the call as it read before'; 0 by the template 'total and deterministic' (their statements: YtolhfgjekomaaaaTotals.lean).
  GIVEN WITH THE SEED: the statements are not yours to turn. If you find one false, say at which input.
  Laid BY PROGRAM, IN A SANDBOX (cutbox-rows.mjs): the forced cells as the released guide's own fill.sh prints them over the translation 96ba2e7c89ea8395… (all of the seat's roots in one cut). By AI agents, Wed Nov 11 2026. No macro, syntax, notation, axiom, sorry.
-/
import Derived.Test.YtolhfgjekomaaaaChecked
import GoSem.Claim
import GoSem.ClaimJoined
import GoSem.ClaimMapViews
import Derived.JoinedTies
import Derived.KernelRfl
namespace Go.Proofs.Ytolhfgjekomaaaa
/- THE CELL 'sum', in the pinned program and in every row, IS THE sha256 OF THE DUMP (.gsa) THAT YtolhfgjekomaaaaProg.lean LOADS. Nothing in Lean hashes anything: it is a label: what it is worth is what the hold of that sum in a sandbox is worth. -/
noncomputable def Try.pinned : Pinned := { name := "ytolhfgjekomaaaa", sum := "96ba2e7c89ea8395630593fe43e200f0e61bf33a12fcf96d53c8280ac409347f", checked := Try.checked }
namespace Rows
def none {H : Type} : Left H := { results := [], args := [] }

/-- 'bordereaulaw24.LayerTells': WHATEVER THE INPUT: true; the input reads as it did. -/
def layerTellsSpec : ChangeSpec := { name := "layerTells", fn := fun _ => fun
  | [d1, d2, d3] => { results := [.lit (.bool true)], args := [d1, d2, d3] }
  | _ => none }
def layerTellsRow : OpenClaim := { program := "ytolhfgjekomaaaa", sum := "96ba2e7c89ea8395630593fe43e200f0e61bf33a12fcf96d53c8280ac409347f", func := "bordereau/bordereaulaw24.LayerTells", spec := "layerTells", unfollowed := true, recurses := true, apart := false }
def LayerTellsSaid : Prop := layerTellsRow.holds Try.pinned (OpenSpec.ofChange layerTellsSpec)

/-- ITS FALSE NEIGHBOUR: 'it returns false'. Refute it at one input. -/
def layerTellsWrong : ChangeSpec := { name := "layerTells", fn := fun _ => fun
  | [d1, d2, d3] => { results := [.lit (.bool false)], args := [d1, d2, d3] }
  | _ => none }
def LayerTellsWrongFalsely : Prop := layerTellsRow.holds Try.pinned (OpenSpec.ofChange layerTellsWrong)

/-- 'bordereaulaw24.LayerBounds': WHATEVER THE INPUT: true; the input reads as it did. -/
def layerBoundsSpec : ChangeSpec := { name := "layerBounds", fn := fun _ => fun
  | [d1, d2] => { results := [.lit (.bool true)], args := [d1, d2] }
  | _ => none }
def layerBoundsRow : OpenClaim := { program := "ytolhfgjekomaaaa", sum := "96ba2e7c89ea8395630593fe43e200f0e61bf33a12fcf96d53c8280ac409347f", func := "bordereau/bordereaulaw24.LayerBounds", spec := "layerBounds", unfollowed := true, recurses := true, apart := false }
def LayerBoundsSaid : Prop := layerBoundsRow.holds Try.pinned (OpenSpec.ofChange layerBoundsSpec)

/-- ITS FALSE NEIGHBOUR: 'it returns false'. Refute it at one input. -/
def layerBoundsWrong : ChangeSpec := { name := "layerBounds", fn := fun _ => fun
  | [d1, d2] => { results := [.lit (.bool false)], args := [d1, d2] }
  | _ => none }
def LayerBoundsWrongFalsely : Prop := layerBoundsRow.holds Try.pinned (OpenSpec.ofChange layerBoundsWrong)

/-- 'bordereaulaw24.LayerMore': WHATEVER THE INPUT: true; the input reads as it did. -/
def layerMoreSpec : ChangeSpec := { name := "layerMore", fn := fun _ => fun
  | [d1, d2, d3] => { results := [.lit (.bool true)], args := [d1, d2, d3] }
  | _ => none }
def layerMoreRow : OpenClaim := { program := "ytolhfgjekomaaaa", sum := "96ba2e7c89ea8395630593fe43e200f0e61bf33a12fcf96d53c8280ac409347f", func := "bordereau/bordereaulaw24.LayerMore", spec := "layerMore", unfollowed := true, recurses := true, apart := false }
def LayerMoreSaid : Prop := layerMoreRow.holds Try.pinned (OpenSpec.ofChange layerMoreSpec)

/-- ITS FALSE NEIGHBOUR: 'it returns false'. Refute it at one input. -/
def layerMoreWrong : ChangeSpec := { name := "layerMore", fn := fun _ => fun
  | [d1, d2, d3] => { results := [.lit (.bool false)], args := [d1, d2, d3] }
  | _ => none }
def LayerMoreWrongFalsely : Prop := layerMoreRow.holds Try.pinned (OpenSpec.ofChange layerMoreWrong)

/-- 'bordereaulaw24.LayerOrder': WHATEVER THE INPUT: true; the input reads as it did. -/
def layerOrderSpec : ChangeSpec := { name := "layerOrder", fn := fun _ => fun
  | [d1, d2] => { results := [.lit (.bool true)], args := [d1, d2] }
  | _ => none }
def layerOrderRow : OpenClaim := { program := "ytolhfgjekomaaaa", sum := "96ba2e7c89ea8395630593fe43e200f0e61bf33a12fcf96d53c8280ac409347f", func := "bordereau/bordereaulaw24.LayerOrder", spec := "layerOrder", unfollowed := true, recurses := true, apart := false }
def LayerOrderSaid : Prop := layerOrderRow.holds Try.pinned (OpenSpec.ofChange layerOrderSpec)

/-- ITS FALSE NEIGHBOUR: 'it returns false'. Refute it at one input. -/
def layerOrderWrong : ChangeSpec := { name := "layerOrder", fn := fun _ => fun
  | [d1, d2] => { results := [.lit (.bool false)], args := [d1, d2] }
  | _ => none }
def LayerOrderWrongFalsely : Prop := layerOrderRow.holds Try.pinned (OpenSpec.ofChange layerOrderWrong)

/-- 'bordereaulaw24.LayerStacks': WHATEVER THE INPUT: true; the input reads as it did. -/
def layerStacksSpec : ChangeSpec := { name := "layerStacks", fn := fun _ => fun
  | [d1, d2, d3, d4, d5] => { results := [.lit (.bool true)], args := [d1, d2, d3, d4, d5] }
  | _ => none }
def layerStacksRow : OpenClaim := { program := "ytolhfgjekomaaaa", sum := "96ba2e7c89ea8395630593fe43e200f0e61bf33a12fcf96d53c8280ac409347f", func := "bordereau/bordereaulaw24.LayerStacks", spec := "layerStacks", unfollowed := true, recurses := true, apart := false }
def LayerStacksSaid : Prop := layerStacksRow.holds Try.pinned (OpenSpec.ofChange layerStacksSpec)

/-- ITS FALSE NEIGHBOUR: 'it returns false'. Refute it at one input. -/
def layerStacksWrong : ChangeSpec := { name := "layerStacks", fn := fun _ => fun
  | [d1, d2, d3, d4, d5] => { results := [.lit (.bool false)], args := [d1, d2, d3, d4, d5] }
  | _ => none }
def LayerStacksWrongFalsely : Prop := layerStacksRow.holds Try.pinned (OpenSpec.ofChange layerStacksWrong)

/-- 'bordereaulaw23.QuotaRight': WHATEVER THE INPUT: true; the input reads as it did. -/
def quotaRightSpec : ChangeSpec := { name := "quotaRight", fn := fun _ => fun
  | [d1, d2] => { results := [.lit (.bool true)], args := [d1, d2] }
  | _ => none }
def quotaRightRow : OpenClaim := { program := "ytolhfgjekomaaaa", sum := "96ba2e7c89ea8395630593fe43e200f0e61bf33a12fcf96d53c8280ac409347f", func := "bordereau/bordereaulaw23.QuotaRight", spec := "quotaRight", unfollowed := true, recurses := true, named := ["math/bits.divideError", "math/bits.overflowError"], apart := false }
def QuotaRightSaid : Prop := quotaRightRow.holds Try.pinned (OpenSpec.ofChange quotaRightSpec)

/-- ITS FALSE NEIGHBOUR: 'it returns false'. Refute it at one input. -/
def quotaRightWrong : ChangeSpec := { name := "quotaRight", fn := fun _ => fun
  | [d1, d2] => { results := [.lit (.bool false)], args := [d1, d2] }
  | _ => none }
def QuotaRightWrongFalsely : Prop := quotaRightRow.holds Try.pinned (OpenSpec.ofChange quotaRightWrong)

/-- 'bordereaulaw23.QuotaBears': WHATEVER THE INPUT: true; the input reads as it did. -/
def quotaBearsSpec : ChangeSpec := { name := "quotaBears", fn := fun _ => fun
  | [d1, d2] => { results := [.lit (.bool true)], args := [d1, d2] }
  | _ => none }
def quotaBearsRow : OpenClaim := { program := "ytolhfgjekomaaaa", sum := "96ba2e7c89ea8395630593fe43e200f0e61bf33a12fcf96d53c8280ac409347f", func := "bordereau/bordereaulaw23.QuotaBears", spec := "quotaBears", unfollowed := true, recurses := true, named := ["math/bits.divideError", "math/bits.overflowError"], apart := false }
def QuotaBearsSaid : Prop := quotaBearsRow.holds Try.pinned (OpenSpec.ofChange quotaBearsSpec)

/-- ITS FALSE NEIGHBOUR: 'it returns false'. Refute it at one input. -/
def quotaBearsWrong : ChangeSpec := { name := "quotaBears", fn := fun _ => fun
  | [d1, d2] => { results := [.lit (.bool false)], args := [d1, d2] }
  | _ => none }
def QuotaBearsWrongFalsely : Prop := quotaBearsRow.holds Try.pinned (OpenSpec.ofChange quotaBearsWrong)

/-- 'bordereaulaw23.QuotaNet': WHATEVER THE INPUT: true; the input reads as it did. -/
def quotaNetSpec : ChangeSpec := { name := "quotaNet", fn := fun _ => fun
  | [d1, d2] => { results := [.lit (.bool true)], args := [d1, d2] }
  | _ => none }
def quotaNetRow : OpenClaim := { program := "ytolhfgjekomaaaa", sum := "96ba2e7c89ea8395630593fe43e200f0e61bf33a12fcf96d53c8280ac409347f", func := "bordereau/bordereaulaw23.QuotaNet", spec := "quotaNet", unfollowed := true, recurses := true, named := ["math/bits.divideError", "math/bits.overflowError"], apart := false }
def QuotaNetSaid : Prop := quotaNetRow.holds Try.pinned (OpenSpec.ofChange quotaNetSpec)

/-- ITS FALSE NEIGHBOUR: 'it returns false'. Refute it at one input. -/
def quotaNetWrong : ChangeSpec := { name := "quotaNet", fn := fun _ => fun
  | [d1, d2] => { results := [.lit (.bool false)], args := [d1, d2] }
  | _ => none }
def QuotaNetWrongFalsely : Prop := quotaNetRow.holds Try.pinned (OpenSpec.ofChange quotaNetWrong)

/-- 'bordereaulaw23.QuotaMost': WHATEVER THE INPUT: true; the input reads as it did. -/
def quotaMostSpec : ChangeSpec := { name := "quotaMost", fn := fun _ => fun
  | [d1, d2] => { results := [.lit (.bool true)], args := [d1, d2] }
  | _ => none }
def quotaMostRow : OpenClaim := { program := "ytolhfgjekomaaaa", sum := "96ba2e7c89ea8395630593fe43e200f0e61bf33a12fcf96d53c8280ac409347f", func := "bordereau/bordereaulaw23.QuotaMost", spec := "quotaMost", unfollowed := true, recurses := true, named := ["math/bits.divideError", "math/bits.overflowError"], apart := false }
def QuotaMostSaid : Prop := quotaMostRow.holds Try.pinned (OpenSpec.ofChange quotaMostSpec)

/-- ITS FALSE NEIGHBOUR: 'it returns false'. Refute it at one input. -/
def quotaMostWrong : ChangeSpec := { name := "quotaMost", fn := fun _ => fun
  | [d1, d2] => { results := [.lit (.bool false)], args := [d1, d2] }
  | _ => none }
def QuotaMostWrongFalsely : Prop := quotaMostRow.holds Try.pinned (OpenSpec.ofChange quotaMostWrong)

/-- 'bordereaulaw23.QuotaMore': WHATEVER THE INPUT: true; the input reads as it did. -/
def quotaMoreSpec : ChangeSpec := { name := "quotaMore", fn := fun _ => fun
  | [d1, d2, d3] => { results := [.lit (.bool true)], args := [d1, d2, d3] }
  | _ => none }
def quotaMoreRow : OpenClaim := { program := "ytolhfgjekomaaaa", sum := "96ba2e7c89ea8395630593fe43e200f0e61bf33a12fcf96d53c8280ac409347f", func := "bordereau/bordereaulaw23.QuotaMore", spec := "quotaMore", unfollowed := true, recurses := true, named := ["math/bits.divideError", "math/bits.overflowError"], apart := false }
def QuotaMoreSaid : Prop := quotaMoreRow.holds Try.pinned (OpenSpec.ofChange quotaMoreSpec)

/-- ITS FALSE NEIGHBOUR: 'it returns false'. Refute it at one input. -/
def quotaMoreWrong : ChangeSpec := { name := "quotaMore", fn := fun _ => fun
  | [d1, d2, d3] => { results := [.lit (.bool false)], args := [d1, d2, d3] }
  | _ => none }
def QuotaMoreWrongFalsely : Prop := quotaMoreRow.holds Try.pinned (OpenSpec.ofChange quotaMoreWrong)

/-- 'bordereaulaw23.QuotaSums': WHATEVER THE INPUT: true; the input reads as it did. -/
def quotaSumsSpec : ChangeSpec := { name := "quotaSums", fn := fun _ => fun
  | [d1, d2] => { results := [.lit (.bool true)], args := [d1, d2] }
  | _ => none }
def quotaSumsRow : OpenClaim := { program := "ytolhfgjekomaaaa", sum := "96ba2e7c89ea8395630593fe43e200f0e61bf33a12fcf96d53c8280ac409347f", func := "bordereau/bordereaulaw23.QuotaSums", spec := "quotaSums", unfollowed := true, recurses := true, named := ["math/bits.divideError", "math/bits.overflowError"], apart := false }
def QuotaSumsSaid : Prop := quotaSumsRow.holds Try.pinned (OpenSpec.ofChange quotaSumsSpec)

/-- ITS FALSE NEIGHBOUR: 'it returns false'. Refute it at one input. -/
def quotaSumsWrong : ChangeSpec := { name := "quotaSums", fn := fun _ => fun
  | [d1, d2] => { results := [.lit (.bool false)], args := [d1, d2] }
  | _ => none }
def QuotaSumsWrongFalsely : Prop := quotaSumsRow.holds Try.pinned (OpenSpec.ofChange quotaSumsWrong)

/- THE SECOND FORM. 'bulk': how many values and letters a reading holds, each counted each time it is reached (what is shared counts as often as it is met; a slice's spare places count too). A statement '..UptoSaid' is the law's where the arguments, and the package variables that the reading takes, are together of bulk at most 1048576: NARROWER than '..Said'. Prove '..Said' where nothing that the law and all that it calls make is longer than what came in: it says more and counts as full. Else prove '..UptoSaid'. A law counts once. -/
mutual
def uptoBulk {H : Type} : DataW H → Nat
  | .lit (.string bytes) => bytes.length + 1
  | .lit _ => 1
  | .nil => 1
  | .ptr d => uptoBulk d + 1
  | .slice elems spare => uptoBulkAll elems + uptoBulkAll spare + 1
  | .agg parts => uptoBulkAll parts + 1
  | .iface _ d => uptoBulk d + 1
  | .map entries => uptoBulkEntries entries + 1
  | .held _ => 1
def uptoBulkAll {H : Type} : List (DataW H) → Nat
  | [] => 0
  | d :: r => uptoBulk d + uptoBulkAll r
def uptoBulkEntries {H : Type} : List (Lit × DataW H) → Nat
  | [] => 0
  | x :: r => uptoBulkEntry x + uptoBulkEntries r
def uptoBulkEntry {H : Type} : Lit × DataW H → Nat
  | (.string bytes, d) => bytes.length + uptoBulk d + 1
  | (_, d) => uptoBulk d + 1
 end
def uptoSmall : (H : Type) → List (DataW H) → Bool := fun _ ds => decide (uptoBulkAll ds ≤ 1048576)
def OpenSpec.upto (s : _root_.Go.ChangeSpec) : _root_.Go.OpenSpec := { _root_.Go.OpenSpec.ofChange s with cond := some uptoSmall }

/-- 'bordereaulaw24.LayerTells', WHERE WHAT IT READS IS OF BULK AT MOST 1048576: true; the input reads as it did. -/
def layerTellsUptoRow : OpenClaim := { program := "ytolhfgjekomaaaa", sum := "96ba2e7c89ea8395630593fe43e200f0e61bf33a12fcf96d53c8280ac409347f", func := "bordereau/bordereaulaw24.LayerTells", spec := "layerTells", unfollowed := true, recurses := true, apart := false, narrowed := true }
def LayerTellsUptoSaid : Prop := layerTellsUptoRow.holds Try.pinned (OpenSpec.upto layerTellsSpec)

/-- 'bordereaulaw24.LayerBounds', WHERE WHAT IT READS IS OF BULK AT MOST 1048576: true; the input reads as it did. -/
def layerBoundsUptoRow : OpenClaim := { program := "ytolhfgjekomaaaa", sum := "96ba2e7c89ea8395630593fe43e200f0e61bf33a12fcf96d53c8280ac409347f", func := "bordereau/bordereaulaw24.LayerBounds", spec := "layerBounds", unfollowed := true, recurses := true, apart := false, narrowed := true }
def LayerBoundsUptoSaid : Prop := layerBoundsUptoRow.holds Try.pinned (OpenSpec.upto layerBoundsSpec)

/-- 'bordereaulaw24.LayerMore', WHERE WHAT IT READS IS OF BULK AT MOST 1048576: true; the input reads as it did. -/
def layerMoreUptoRow : OpenClaim := { program := "ytolhfgjekomaaaa", sum := "96ba2e7c89ea8395630593fe43e200f0e61bf33a12fcf96d53c8280ac409347f", func := "bordereau/bordereaulaw24.LayerMore", spec := "layerMore", unfollowed := true, recurses := true, apart := false, narrowed := true }
def LayerMoreUptoSaid : Prop := layerMoreUptoRow.holds Try.pinned (OpenSpec.upto layerMoreSpec)

/-- 'bordereaulaw24.LayerOrder', WHERE WHAT IT READS IS OF BULK AT MOST 1048576: true; the input reads as it did. -/
def layerOrderUptoRow : OpenClaim := { program := "ytolhfgjekomaaaa", sum := "96ba2e7c89ea8395630593fe43e200f0e61bf33a12fcf96d53c8280ac409347f", func := "bordereau/bordereaulaw24.LayerOrder", spec := "layerOrder", unfollowed := true, recurses := true, apart := false, narrowed := true }
def LayerOrderUptoSaid : Prop := layerOrderUptoRow.holds Try.pinned (OpenSpec.upto layerOrderSpec)

/-- 'bordereaulaw24.LayerStacks', WHERE WHAT IT READS IS OF BULK AT MOST 1048576: true; the input reads as it did. -/
def layerStacksUptoRow : OpenClaim := { program := "ytolhfgjekomaaaa", sum := "96ba2e7c89ea8395630593fe43e200f0e61bf33a12fcf96d53c8280ac409347f", func := "bordereau/bordereaulaw24.LayerStacks", spec := "layerStacks", unfollowed := true, recurses := true, apart := false, narrowed := true }
def LayerStacksUptoSaid : Prop := layerStacksUptoRow.holds Try.pinned (OpenSpec.upto layerStacksSpec)

/-- 'bordereaulaw23.QuotaRight', WHERE WHAT IT READS IS OF BULK AT MOST 1048576: true; the input reads as it did. -/
def quotaRightUptoRow : OpenClaim := { program := "ytolhfgjekomaaaa", sum := "96ba2e7c89ea8395630593fe43e200f0e61bf33a12fcf96d53c8280ac409347f", func := "bordereau/bordereaulaw23.QuotaRight", spec := "quotaRight", unfollowed := true, recurses := true, named := ["math/bits.divideError", "math/bits.overflowError"], apart := false, narrowed := true }
def QuotaRightUptoSaid : Prop := quotaRightUptoRow.holds Try.pinned (OpenSpec.upto quotaRightSpec)

/-- 'bordereaulaw23.QuotaBears', WHERE WHAT IT READS IS OF BULK AT MOST 1048576: true; the input reads as it did. -/
def quotaBearsUptoRow : OpenClaim := { program := "ytolhfgjekomaaaa", sum := "96ba2e7c89ea8395630593fe43e200f0e61bf33a12fcf96d53c8280ac409347f", func := "bordereau/bordereaulaw23.QuotaBears", spec := "quotaBears", unfollowed := true, recurses := true, named := ["math/bits.divideError", "math/bits.overflowError"], apart := false, narrowed := true }
def QuotaBearsUptoSaid : Prop := quotaBearsUptoRow.holds Try.pinned (OpenSpec.upto quotaBearsSpec)

/-- 'bordereaulaw23.QuotaNet', WHERE WHAT IT READS IS OF BULK AT MOST 1048576: true; the input reads as it did. -/
def quotaNetUptoRow : OpenClaim := { program := "ytolhfgjekomaaaa", sum := "96ba2e7c89ea8395630593fe43e200f0e61bf33a12fcf96d53c8280ac409347f", func := "bordereau/bordereaulaw23.QuotaNet", spec := "quotaNet", unfollowed := true, recurses := true, named := ["math/bits.divideError", "math/bits.overflowError"], apart := false, narrowed := true }
def QuotaNetUptoSaid : Prop := quotaNetUptoRow.holds Try.pinned (OpenSpec.upto quotaNetSpec)

/-- 'bordereaulaw23.QuotaMost', WHERE WHAT IT READS IS OF BULK AT MOST 1048576: true; the input reads as it did. -/
def quotaMostUptoRow : OpenClaim := { program := "ytolhfgjekomaaaa", sum := "96ba2e7c89ea8395630593fe43e200f0e61bf33a12fcf96d53c8280ac409347f", func := "bordereau/bordereaulaw23.QuotaMost", spec := "quotaMost", unfollowed := true, recurses := true, named := ["math/bits.divideError", "math/bits.overflowError"], apart := false, narrowed := true }
def QuotaMostUptoSaid : Prop := quotaMostUptoRow.holds Try.pinned (OpenSpec.upto quotaMostSpec)

/-- 'bordereaulaw23.QuotaMore', WHERE WHAT IT READS IS OF BULK AT MOST 1048576: true; the input reads as it did. -/
def quotaMoreUptoRow : OpenClaim := { program := "ytolhfgjekomaaaa", sum := "96ba2e7c89ea8395630593fe43e200f0e61bf33a12fcf96d53c8280ac409347f", func := "bordereau/bordereaulaw23.QuotaMore", spec := "quotaMore", unfollowed := true, recurses := true, named := ["math/bits.divideError", "math/bits.overflowError"], apart := false, narrowed := true }
def QuotaMoreUptoSaid : Prop := quotaMoreUptoRow.holds Try.pinned (OpenSpec.upto quotaMoreSpec)

/-- 'bordereaulaw23.QuotaSums', WHERE WHAT IT READS IS OF BULK AT MOST 1048576: true; the input reads as it did. -/
def quotaSumsUptoRow : OpenClaim := { program := "ytolhfgjekomaaaa", sum := "96ba2e7c89ea8395630593fe43e200f0e61bf33a12fcf96d53c8280ac409347f", func := "bordereau/bordereaulaw23.QuotaSums", spec := "quotaSums", unfollowed := true, recurses := true, named := ["math/bits.divideError", "math/bits.overflowError"], apart := false, narrowed := true }
def QuotaSumsUptoSaid : Prop := quotaSumsUptoRow.holds Try.pinned (OpenSpec.upto quotaSumsSpec)

end Rows
end Go.Proofs.Ytolhfgjekomaaaa
