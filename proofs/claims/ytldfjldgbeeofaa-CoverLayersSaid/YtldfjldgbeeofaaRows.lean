/-
  No cell of these rows narrows 'for every input' (looked for: loops, veiled, ifaces, maps, wideKeys, modest, calm, conditions, laid).
  DERIVED. THE GIVEN ROWS OF THIS SEAT. 5 by the template 'for every input the law returns true; each argument reads behind the call as it read before'; 0 by the template 'total and deterministic' (their statements: YtldfjldgbeeofaaTotals.lean).
  GIVEN WITH THE SEED: the statements are not yours to turn. If you find one false, say at which input.
  Laid BY PROGRAM, IN A SANDBOX (cutbox-rows.mjs): the forced cells as the released guide's own fill.sh prints them over the translation 903bd6cd3d17eb83… (all of the seat's roots in one cut). By AI agents, Wed Nov 11 2026. No macro, syntax, notation, axiom, sorry.
-/
import Derived.Test.YtldfjldgbeeofaaChecked
import GoSem.Claim
import GoSem.ClaimJoined
import GoSem.ClaimMapViews
import Derived.JoinedTies
import Derived.KernelRfl
namespace Go.Proofs.Ytldfjldgbeeofaa
/- THE CELL 'sum', in the pinned program and in every row, IS THE sha256 OF THE DUMP (.gsa) THAT YtldfjldgbeeofaaProg.lean LOADS. Nothing in Lean hashes anything: it is a label: what it is worth is what the hold of that sum in a sandbox is worth. -/
noncomputable def Try.pinned : Pinned := { name := "ytldfjldgbeeofaa", sum := "903bd6cd3d17eb832b70a937833a9d9389e649c9b50852c2df389e2c927ce6be", checked := Try.checked }
namespace Rows
def none {H : Type} : Left H := { results := [], args := [] }

/-- 'bordereaulaw08.CoverTells': WHATEVER THE INPUT: true; the input reads as it did. -/
def coverTellsSpec : ChangeSpec := { name := "coverTells", fn := fun _ => fun
  | [d1, d2, d3] => { results := [.lit (.bool true)], args := [d1, d2, d3] }
  | _ => none }
def coverTellsRow : OpenClaim := { program := "ytldfjldgbeeofaa", sum := "903bd6cd3d17eb832b70a937833a9d9389e649c9b50852c2df389e2c927ce6be", func := "bordereau/bordereaulaw08.CoverTells", spec := "coverTells", unfollowed := true, recurses := true, named := ["math/bits.divideError", "math/bits.overflowError"], apart := false }
def CoverTellsSaid : Prop := coverTellsRow.holds Try.pinned (OpenSpec.ofChange coverTellsSpec)

/-- ITS FALSE NEIGHBOUR: 'it returns false'. Refute it at one input. -/
def coverTellsWrong : ChangeSpec := { name := "coverTells", fn := fun _ => fun
  | [d1, d2, d3] => { results := [.lit (.bool false)], args := [d1, d2, d3] }
  | _ => none }
def CoverTellsWrongFalsely : Prop := coverTellsRow.holds Try.pinned (OpenSpec.ofChange coverTellsWrong)

/-- 'bordereaulaw08.CoverBounds': WHATEVER THE INPUT: true; the input reads as it did. -/
def coverBoundsSpec : ChangeSpec := { name := "coverBounds", fn := fun _ => fun
  | [d1, d2, d3] => { results := [.lit (.bool true)], args := [d1, d2, d3] }
  | _ => none }
def coverBoundsRow : OpenClaim := { program := "ytldfjldgbeeofaa", sum := "903bd6cd3d17eb832b70a937833a9d9389e649c9b50852c2df389e2c927ce6be", func := "bordereau/bordereaulaw08.CoverBounds", spec := "coverBounds", unfollowed := true, recurses := true, named := ["math/bits.divideError", "math/bits.overflowError"], apart := false }
def CoverBoundsSaid : Prop := coverBoundsRow.holds Try.pinned (OpenSpec.ofChange coverBoundsSpec)

/-- ITS FALSE NEIGHBOUR: 'it returns false'. Refute it at one input. -/
def coverBoundsWrong : ChangeSpec := { name := "coverBounds", fn := fun _ => fun
  | [d1, d2, d3] => { results := [.lit (.bool false)], args := [d1, d2, d3] }
  | _ => none }
def CoverBoundsWrongFalsely : Prop := coverBoundsRow.holds Try.pinned (OpenSpec.ofChange coverBoundsWrong)

/-- 'bordereaulaw08.CoverRises': WHATEVER THE INPUT: true; the input reads as it did. -/
def coverRisesSpec : ChangeSpec := { name := "coverRises", fn := fun _ => fun
  | [d1, d2, d3, d4, d5] => { results := [.lit (.bool true)], args := [d1, d2, d3, d4, d5] }
  | _ => none }
def coverRisesRow : OpenClaim := { program := "ytldfjldgbeeofaa", sum := "903bd6cd3d17eb832b70a937833a9d9389e649c9b50852c2df389e2c927ce6be", func := "bordereau/bordereaulaw08.CoverRises", spec := "coverRises", unfollowed := true, recurses := true, named := ["math/bits.divideError", "math/bits.overflowError"], apart := false }
def CoverRisesSaid : Prop := coverRisesRow.holds Try.pinned (OpenSpec.ofChange coverRisesSpec)

/-- ITS FALSE NEIGHBOUR: 'it returns false'. Refute it at one input. -/
def coverRisesWrong : ChangeSpec := { name := "coverRises", fn := fun _ => fun
  | [d1, d2, d3, d4, d5] => { results := [.lit (.bool false)], args := [d1, d2, d3, d4, d5] }
  | _ => none }
def CoverRisesWrongFalsely : Prop := coverRisesRow.holds Try.pinned (OpenSpec.ofChange coverRisesWrong)

/-- 'bordereaulaw08.CoverAll': WHATEVER THE INPUT: true; the input reads as it did. -/
def coverAllSpec : ChangeSpec := { name := "coverAll", fn := fun _ => fun
  | [d1, d2] => { results := [.lit (.bool true)], args := [d1, d2] }
  | _ => none }
def coverAllRow : OpenClaim := { program := "ytldfjldgbeeofaa", sum := "903bd6cd3d17eb832b70a937833a9d9389e649c9b50852c2df389e2c927ce6be", func := "bordereau/bordereaulaw08.CoverAll", spec := "coverAll", unfollowed := true, recurses := true, named := ["math/bits.divideError", "math/bits.overflowError"], apart := false }
def CoverAllSaid : Prop := coverAllRow.holds Try.pinned (OpenSpec.ofChange coverAllSpec)

/-- ITS FALSE NEIGHBOUR: 'it returns false'. Refute it at one input. -/
def coverAllWrong : ChangeSpec := { name := "coverAll", fn := fun _ => fun
  | [d1, d2] => { results := [.lit (.bool false)], args := [d1, d2] }
  | _ => none }
def CoverAllWrongFalsely : Prop := coverAllRow.holds Try.pinned (OpenSpec.ofChange coverAllWrong)

/-- 'bordereaulaw08.CoverLayers': WHATEVER THE INPUT: true; the input reads as it did. -/
def coverLayersSpec : ChangeSpec := { name := "coverLayers", fn := fun _ => fun
  | [d1, d2, d3, d4] => { results := [.lit (.bool true)], args := [d1, d2, d3, d4] }
  | _ => none }
def coverLayersRow : OpenClaim := { program := "ytldfjldgbeeofaa", sum := "903bd6cd3d17eb832b70a937833a9d9389e649c9b50852c2df389e2c927ce6be", func := "bordereau/bordereaulaw08.CoverLayers", spec := "coverLayers", unfollowed := true, recurses := true, named := ["math/bits.divideError", "math/bits.overflowError"], apart := false }
def CoverLayersSaid : Prop := coverLayersRow.holds Try.pinned (OpenSpec.ofChange coverLayersSpec)

/-- ITS FALSE NEIGHBOUR: 'it returns false'. Refute it at one input. -/
def coverLayersWrong : ChangeSpec := { name := "coverLayers", fn := fun _ => fun
  | [d1, d2, d3, d4] => { results := [.lit (.bool false)], args := [d1, d2, d3, d4] }
  | _ => none }
def CoverLayersWrongFalsely : Prop := coverLayersRow.holds Try.pinned (OpenSpec.ofChange coverLayersWrong)

/- THE SECOND FORM. 'bulk': how many values and letters a reading holds, each counted each time it is reached (what is shared counts as often as it is met; a slice's spare places count too). A statement '..UptoSaid' is the law's where the arguments, and the package variables that the reading takes, are together of bulk at most 1048576: NARROWER than '..Said'. Prove '..Said' where nothing that the law and all that it calls make is longer than what came in: it says more and counts as full. Else prove '..UptoSaid'. A law counts once. -/
mutual
def uptoBulk {H : Type} : DataW H → Nat
  | .lit (.string bytes) => bytes.length + 1
  | .lit _ => 1
  | .nil => 1
  | .ptr d => uptoBulk d + 1
  | .slice elems spare => uptoBulkAll elems + uptoBulkAll spare + 1
  | .agg parts => uptoBulkAll parts + 1
  | .iface _ d => uptoBulk d + 1
  | .map entries => uptoBulkEntries entries + 1
  | .held _ => 1
def uptoBulkAll {H : Type} : List (DataW H) → Nat
  | [] => 0
  | d :: r => uptoBulk d + uptoBulkAll r
def uptoBulkEntries {H : Type} : List (Lit × DataW H) → Nat
  | [] => 0
  | x :: r => uptoBulkEntry x + uptoBulkEntries r
def uptoBulkEntry {H : Type} : Lit × DataW H → Nat
  | (.string bytes, d) => bytes.length + uptoBulk d + 1
  | (_, d) => uptoBulk d + 1
 end
def uptoSmall : (H : Type) → List (DataW H) → Bool := fun _ ds => decide (uptoBulkAll ds ≤ 1048576)
def OpenSpec.upto (s : _root_.Go.ChangeSpec) : _root_.Go.OpenSpec := { _root_.Go.OpenSpec.ofChange s with cond := some uptoSmall }

/-- 'bordereaulaw08.CoverTells', WHERE WHAT IT READS IS OF BULK AT MOST 1048576: true; the input reads as it did. -/
def coverTellsUptoRow : OpenClaim := { program := "ytldfjldgbeeofaa", sum := "903bd6cd3d17eb832b70a937833a9d9389e649c9b50852c2df389e2c927ce6be", func := "bordereau/bordereaulaw08.CoverTells", spec := "coverTells", unfollowed := true, recurses := true, named := ["math/bits.divideError", "math/bits.overflowError"], apart := false, narrowed := true }
def CoverTellsUptoSaid : Prop := coverTellsUptoRow.holds Try.pinned (OpenSpec.upto coverTellsSpec)

/-- 'bordereaulaw08.CoverBounds', WHERE WHAT IT READS IS OF BULK AT MOST 1048576: true; the input reads as it did. -/
def coverBoundsUptoRow : OpenClaim := { program := "ytldfjldgbeeofaa", sum := "903bd6cd3d17eb832b70a937833a9d9389e649c9b50852c2df389e2c927ce6be", func := "bordereau/bordereaulaw08.CoverBounds", spec := "coverBounds", unfollowed := true, recurses := true, named := ["math/bits.divideError", "math/bits.overflowError"], apart := false, narrowed := true }
def CoverBoundsUptoSaid : Prop := coverBoundsUptoRow.holds Try.pinned (OpenSpec.upto coverBoundsSpec)

/-- 'bordereaulaw08.CoverRises', WHERE WHAT IT READS IS OF BULK AT MOST 1048576: true; the input reads as it did. -/
def coverRisesUptoRow : OpenClaim := { program := "ytldfjldgbeeofaa", sum := "903bd6cd3d17eb832b70a937833a9d9389e649c9b50852c2df389e2c927ce6be", func := "bordereau/bordereaulaw08.CoverRises", spec := "coverRises", unfollowed := true, recurses := true, named := ["math/bits.divideError", "math/bits.overflowError"], apart := false, narrowed := true }
def CoverRisesUptoSaid : Prop := coverRisesUptoRow.holds Try.pinned (OpenSpec.upto coverRisesSpec)

/-- 'bordereaulaw08.CoverAll', WHERE WHAT IT READS IS OF BULK AT MOST 1048576: true; the input reads as it did. -/
def coverAllUptoRow : OpenClaim := { program := "ytldfjldgbeeofaa", sum := "903bd6cd3d17eb832b70a937833a9d9389e649c9b50852c2df389e2c927ce6be", func := "bordereau/bordereaulaw08.CoverAll", spec := "coverAll", unfollowed := true, recurses := true, named := ["math/bits.divideError", "math/bits.overflowError"], apart := false, narrowed := true }
def CoverAllUptoSaid : Prop := coverAllUptoRow.holds Try.pinned (OpenSpec.upto coverAllSpec)

/-- 'bordereaulaw08.CoverLayers', WHERE WHAT IT READS IS OF BULK AT MOST 1048576: true; the input reads as it did. -/
def coverLayersUptoRow : OpenClaim := { program := "ytldfjldgbeeofaa", sum := "903bd6cd3d17eb832b70a937833a9d9389e649c9b50852c2df389e2c927ce6be", func := "bordereau/bordereaulaw08.CoverLayers", spec := "coverLayers", unfollowed := true, recurses := true, named := ["math/bits.divideError", "math/bits.overflowError"], apart := false, narrowed := true }
def CoverLayersUptoSaid : Prop := coverLayersUptoRow.holds Try.pinned (OpenSpec.upto coverLayersSpec)

end Rows
end Go.Proofs.Ytldfjldgbeeofaa
