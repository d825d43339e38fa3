/-
  No cell of these rows narrows 'for every input' (looked for: loops, veiled, ifaces, maps, wideKeys, modest, calm, conditions, laid).
  DERIVED. THE GIVEN ROWS OF THIS SEAT. 7 by the template 'for every input the law returns true; each argument reads behind the call as it read before'; 0 by the template 'total and deterministic' (their statements: YtllakgjfgdgfiaaTotals.lean).
  GIVEN WITH THE SEED: the statements are not yours to turn. If you find one false, say at which input.
  Laid BY PROGRAM, IN A SANDBOX (cutbox-rows.mjs): the forced cells as the released guide's own fill.sh prints them over the translation ef19f6b7e48b34f8… (all of the seat's roots in one cut). By AI agents, Wed Nov 11 2026. No macro, syntax, notation, axiom, sorry.
-/
import Derived.Test.YtllakgjfgdgfiaaChecked
import GoSem.Claim
import GoSem.ClaimJoined
import GoSem.ClaimMapViews
import Derived.JoinedTies
import Derived.KernelRfl
namespace Go.Proofs.Ytllakgjfgdgfiaa
/- THE CELL 'sum', in the pinned program and in every row, IS THE sha256 OF THE DUMP (.gsa) THAT YtllakgjfgdgfiaaProg.lean LOADS. Nothing in Lean hashes anything: it is a label: what it is worth is what the hold of that sum in a sandbox is worth. -/
noncomputable def Try.pinned : Pinned := { name := "ytllakgjfgdgfiaa", sum := "ef19f6b7e48b34f8fd84d57801cf23b895cf0258f90ce7e42a86a8c70ab67c9d", checked := Try.checked }
namespace Rows
def none {H : Type} : Left H := { results := [], args := [] }

/-- 'bordereaulaw05.PostRight': WHATEVER THE INPUT: true; the input reads as it did. -/
def postRightSpec : ChangeSpec := { name := "postRight", fn := fun _ => fun
  | [d] => { results := [.lit (.bool true)], args := [d] }
  | _ => none }
def postRightRow : OpenClaim := { program := "ytllakgjfgdgfiaa", sum := "ef19f6b7e48b34f8fd84d57801cf23b895cf0258f90ce7e42a86a8c70ab67c9d", func := "bordereau/bordereaulaw05.PostRight", spec := "postRight", unfollowed := true, recurses := true, apart := false }
def PostRightSaid : Prop := postRightRow.holds Try.pinned (OpenSpec.ofChange postRightSpec)

/-- ITS FALSE NEIGHBOUR: 'it returns false'. Refute it at one input. -/
def postRightWrong : ChangeSpec := { name := "postRight", fn := fun _ => fun
  | [d] => { results := [.lit (.bool false)], args := [d] }
  | _ => none }
def PostRightWrongFalsely : Prop := postRightRow.holds Try.pinned (OpenSpec.ofChange postRightWrong)

/-- 'bordereaulaw05.PostTold': WHATEVER THE INPUT: true; the input reads as it did. -/
def postToldSpec : ChangeSpec := { name := "postTold", fn := fun _ => fun
  | [d1, d2, d3] => { results := [.lit (.bool true)], args := [d1, d2, d3] }
  | _ => none }
def postToldRow : OpenClaim := { program := "ytllakgjfgdgfiaa", sum := "ef19f6b7e48b34f8fd84d57801cf23b895cf0258f90ce7e42a86a8c70ab67c9d", func := "bordereau/bordereaulaw05.PostTold", spec := "postTold", unfollowed := true, recurses := true, apart := false }
def PostToldSaid : Prop := postToldRow.holds Try.pinned (OpenSpec.ofChange postToldSpec)

/-- ITS FALSE NEIGHBOUR: 'it returns false'. Refute it at one input. -/
def postToldWrong : ChangeSpec := { name := "postTold", fn := fun _ => fun
  | [d1, d2, d3] => { results := [.lit (.bool false)], args := [d1, d2, d3] }
  | _ => none }
def PostToldWrongFalsely : Prop := postToldRow.holds Try.pinned (OpenSpec.ofChange postToldWrong)

/-- 'bordereaulaw05.PostZero': WHATEVER THE INPUT: true; the input reads as it did. -/
def postZeroSpec : ChangeSpec := { name := "postZero", fn := fun _ => fun
  | [d1, d2] => { results := [.lit (.bool true)], args := [d1, d2] }
  | _ => none }
def postZeroRow : OpenClaim := { program := "ytllakgjfgdgfiaa", sum := "ef19f6b7e48b34f8fd84d57801cf23b895cf0258f90ce7e42a86a8c70ab67c9d", func := "bordereau/bordereaulaw05.PostZero", spec := "postZero", unfollowed := true, recurses := true, apart := false }
def PostZeroSaid : Prop := postZeroRow.holds Try.pinned (OpenSpec.ofChange postZeroSpec)

/-- ITS FALSE NEIGHBOUR: 'it returns false'. Refute it at one input. -/
def postZeroWrong : ChangeSpec := { name := "postZero", fn := fun _ => fun
  | [d1, d2] => { results := [.lit (.bool false)], args := [d1, d2] }
  | _ => none }
def PostZeroWrongFalsely : Prop := postZeroRow.holds Try.pinned (OpenSpec.ofChange postZeroWrong)

/-- 'bordereaulaw05.PostLater': WHATEVER THE INPUT: true; the input reads as it did. -/
def postLaterSpec : ChangeSpec := { name := "postLater", fn := fun _ => fun
  | [d1, d2, d3] => { results := [.lit (.bool true)], args := [d1, d2, d3] }
  | _ => none }
def postLaterRow : OpenClaim := { program := "ytllakgjfgdgfiaa", sum := "ef19f6b7e48b34f8fd84d57801cf23b895cf0258f90ce7e42a86a8c70ab67c9d", func := "bordereau/bordereaulaw05.PostLater", spec := "postLater", unfollowed := true, recurses := true, apart := false }
def PostLaterSaid : Prop := postLaterRow.holds Try.pinned (OpenSpec.ofChange postLaterSpec)

/-- ITS FALSE NEIGHBOUR: 'it returns false'. Refute it at one input. -/
def postLaterWrong : ChangeSpec := { name := "postLater", fn := fun _ => fun
  | [d1, d2, d3] => { results := [.lit (.bool false)], args := [d1, d2, d3] }
  | _ => none }
def PostLaterWrongFalsely : Prop := postLaterRow.holds Try.pinned (OpenSpec.ofChange postLaterWrong)

/-- 'bordereaulaw05.PostParts': WHATEVER THE INPUT: true; the input reads as it did. -/
def postPartsSpec : ChangeSpec := { name := "postParts", fn := fun _ => fun
  | [d1, d2, d3] => { results := [.lit (.bool true)], args := [d1, d2, d3] }
  | _ => none }
def postPartsRow : OpenClaim := { program := "ytllakgjfgdgfiaa", sum := "ef19f6b7e48b34f8fd84d57801cf23b895cf0258f90ce7e42a86a8c70ab67c9d", func := "bordereau/bordereaulaw05.PostParts", spec := "postParts", unfollowed := true, recurses := true, apart := false }
def PostPartsSaid : Prop := postPartsRow.holds Try.pinned (OpenSpec.ofChange postPartsSpec)

/-- ITS FALSE NEIGHBOUR: 'it returns false'. Refute it at one input. -/
def postPartsWrong : ChangeSpec := { name := "postParts", fn := fun _ => fun
  | [d1, d2, d3] => { results := [.lit (.bool false)], args := [d1, d2, d3] }
  | _ => none }
def PostPartsWrongFalsely : Prop := postPartsRow.holds Try.pinned (OpenSpec.ofChange postPartsWrong)

/-- 'bordereaulaw05.PostWhole': WHATEVER THE INPUT: true; the input reads as it did. -/
def postWholeSpec : ChangeSpec := { name := "postWhole", fn := fun _ => fun
  | [d1, d2] => { results := [.lit (.bool true)], args := [d1, d2] }
  | _ => none }
def postWholeRow : OpenClaim := { program := "ytllakgjfgdgfiaa", sum := "ef19f6b7e48b34f8fd84d57801cf23b895cf0258f90ce7e42a86a8c70ab67c9d", func := "bordereau/bordereaulaw05.PostWhole", spec := "postWhole", unfollowed := true, recurses := true, apart := false }
def PostWholeSaid : Prop := postWholeRow.holds Try.pinned (OpenSpec.ofChange postWholeSpec)

/-- ITS FALSE NEIGHBOUR: 'it returns false'. Refute it at one input. -/
def postWholeWrong : ChangeSpec := { name := "postWhole", fn := fun _ => fun
  | [d1, d2] => { results := [.lit (.bool false)], args := [d1, d2] }
  | _ => none }
def PostWholeWrongFalsely : Prop := postWholeRow.holds Try.pinned (OpenSpec.ofChange postWholeWrong)

/-- 'bordereaulaw05.PostTurns': WHATEVER THE INPUT: true; the input reads as it did. -/
def postTurnsSpec : ChangeSpec := { name := "postTurns", fn := fun _ => fun
  | [d1, d2, d3] => { results := [.lit (.bool true)], args := [d1, d2, d3] }
  | _ => none }
def postTurnsRow : OpenClaim := { program := "ytllakgjfgdgfiaa", sum := "ef19f6b7e48b34f8fd84d57801cf23b895cf0258f90ce7e42a86a8c70ab67c9d", func := "bordereau/bordereaulaw05.PostTurns", spec := "postTurns", unfollowed := true, recurses := true, apart := false }
def PostTurnsSaid : Prop := postTurnsRow.holds Try.pinned (OpenSpec.ofChange postTurnsSpec)

/-- ITS FALSE NEIGHBOUR: 'it returns false'. Refute it at one input. -/
def postTurnsWrong : ChangeSpec := { name := "postTurns", fn := fun _ => fun
  | [d1, d2, d3] => { results := [.lit (.bool false)], args := [d1, d2, d3] }
  | _ => none }
def PostTurnsWrongFalsely : Prop := postTurnsRow.holds Try.pinned (OpenSpec.ofChange postTurnsWrong)

/- THE SECOND FORM. 'bulk': how many values and letters a reading holds, each counted each time it is reached (what is shared counts as often as it is met; a slice's spare places count too). A statement '..UptoSaid' is the law's where the arguments, and the package variables that the reading takes, are together of bulk at most 1048576: NARROWER than '..Said'. Prove '..Said' where nothing that the law and all that it calls make is longer than what came in: it says more and counts as full. Else prove '..UptoSaid'. A law counts once. -/
mutual
def uptoBulk {H : Type} : DataW H → Nat
  | .lit (.string bytes) => bytes.length + 1
  | .lit _ => 1
  | .nil => 1
  | .ptr d => uptoBulk d + 1
  | .slice elems spare => uptoBulkAll elems + uptoBulkAll spare + 1
  | .agg parts => uptoBulkAll parts + 1
  | .iface _ d => uptoBulk d + 1
  | .map entries => uptoBulkEntries entries + 1
  | .held _ => 1
def uptoBulkAll {H : Type} : List (DataW H) → Nat
  | [] => 0
  | d :: r => uptoBulk d + uptoBulkAll r
def uptoBulkEntries {H : Type} : List (Lit × DataW H) → Nat
  | [] => 0
  | x :: r => uptoBulkEntry x + uptoBulkEntries r
def uptoBulkEntry {H : Type} : Lit × DataW H → Nat
  | (.string bytes, d) => bytes.length + uptoBulk d + 1
  | (_, d) => uptoBulk d + 1
 end
def uptoSmall : (H : Type) → List (DataW H) → Bool := fun _ ds => decide (uptoBulkAll ds ≤ 1048576)
def OpenSpec.upto (s : _root_.Go.ChangeSpec) : _root_.Go.OpenSpec := { _root_.Go.OpenSpec.ofChange s with cond := some uptoSmall }

/-- 'bordereaulaw05.PostRight', WHERE WHAT IT READS IS OF BULK AT MOST 1048576: true; the input reads as it did. -/
def postRightUptoRow : OpenClaim := { program := "ytllakgjfgdgfiaa", sum := "ef19f6b7e48b34f8fd84d57801cf23b895cf0258f90ce7e42a86a8c70ab67c9d", func := "bordereau/bordereaulaw05.PostRight", spec := "postRight", unfollowed := true, recurses := true, apart := false, narrowed := true }
def PostRightUptoSaid : Prop := postRightUptoRow.holds Try.pinned (OpenSpec.upto postRightSpec)

/-- 'bordereaulaw05.PostTold', WHERE WHAT IT READS IS OF BULK AT MOST 1048576: true; the input reads as it did. -/
def postToldUptoRow : OpenClaim := { program := "ytllakgjfgdgfiaa", sum := "ef19f6b7e48b34f8fd84d57801cf23b895cf0258f90ce7e42a86a8c70ab67c9d", func := "bordereau/bordereaulaw05.PostTold", spec := "postTold", unfollowed := true, recurses := true, apart := false, narrowed := true }
def PostToldUptoSaid : Prop := postToldUptoRow.holds Try.pinned (OpenSpec.upto postToldSpec)

/-- 'bordereaulaw05.PostZero', WHERE WHAT IT READS IS OF BULK AT MOST 1048576: true; the input reads as it did. -/
def postZeroUptoRow : OpenClaim := { program := "ytllakgjfgdgfiaa", sum := "ef19f6b7e48b34f8fd84d57801cf23b895cf0258f90ce7e42a86a8c70ab67c9d", func := "bordereau/bordereaulaw05.PostZero", spec := "postZero", unfollowed := true, recurses := true, apart := false, narrowed := true }
def PostZeroUptoSaid : Prop := postZeroUptoRow.holds Try.pinned (OpenSpec.upto postZeroSpec)

/-- 'bordereaulaw05.PostLater', WHERE WHAT IT READS IS OF BULK AT MOST 1048576: true; the input reads as it did. -/
def postLaterUptoRow : OpenClaim := { program := "ytllakgjfgdgfiaa", sum := "ef19f6b7e48b34f8fd84d57801cf23b895cf0258f90ce7e42a86a8c70ab67c9d", func := "bordereau/bordereaulaw05.PostLater", spec := "postLater", unfollowed := true, recurses := true, apart := false, narrowed := true }
def PostLaterUptoSaid : Prop := postLaterUptoRow.holds Try.pinned (OpenSpec.upto postLaterSpec)

/-- 'bordereaulaw05.PostParts', WHERE WHAT IT READS IS OF BULK AT MOST 1048576: true; the input reads as it did. -/
def postPartsUptoRow : OpenClaim := { program := "ytllakgjfgdgfiaa", sum := "ef19f6b7e48b34f8fd84d57801cf23b895cf0258f90ce7e42a86a8c70ab67c9d", func := "bordereau/bordereaulaw05.PostParts", spec := "postParts", unfollowed := true, recurses := true, apart := false, narrowed := true }
def PostPartsUptoSaid : Prop := postPartsUptoRow.holds Try.pinned (OpenSpec.upto postPartsSpec)

/-- 'bordereaulaw05.PostWhole', WHERE WHAT IT READS IS OF BULK AT MOST 1048576: true; the input reads as it did. -/
def postWholeUptoRow : OpenClaim := { program := "ytllakgjfgdgfiaa", sum := "ef19f6b7e48b34f8fd84d57801cf23b895cf0258f90ce7e42a86a8c70ab67c9d", func := "bordereau/bordereaulaw05.PostWhole", spec := "postWhole", unfollowed := true, recurses := true, apart := false, narrowed := true }
def PostWholeUptoSaid : Prop := postWholeUptoRow.holds Try.pinned (OpenSpec.upto postWholeSpec)

/-- 'bordereaulaw05.PostTurns', WHERE WHAT IT READS IS OF BULK AT MOST 1048576: true; the input reads as it did. -/
def postTurnsUptoRow : OpenClaim := { program := "ytllakgjfgdgfiaa", sum := "ef19f6b7e48b34f8fd84d57801cf23b895cf0258f90ce7e42a86a8c70ab67c9d", func := "bordereau/bordereaulaw05.PostTurns", spec := "postTurns", unfollowed := true, recurses := true, apart := false, narrowed := true }
def PostTurnsUptoSaid : Prop := postTurnsUptoRow.holds Try.pinned (OpenSpec.upto postTurnsSpec)

end Rows
end Go.Proofs.Ytllakgjfgdgfiaa
