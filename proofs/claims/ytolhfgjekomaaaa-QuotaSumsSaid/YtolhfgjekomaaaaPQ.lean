import Derived.Test.YtolhfgjekomaaaaPR
import Derived.Test.YtolhfgjekomaaaaQ
namespace Go.Proofs.Ytolhfgjekomaaaa
open Go.ChangeShapes Go.WideShapes Go.ChangeAt Go.RowKit Go.Bx

theorem treaties_reads : Reads Try.prog 51 1 (fun l : List Tr => [slT l]) (fun l => l.length ≤ 9223372036854775807 ∧ ∀ t, t ∈ l → okT t) :=
  (treaty_reads.slice Try.underlying51 (by kernel_rfl) (by decide)).map id _ _ (fun _ => rfl) (fun _ => rfl) (fun _ h => h)
theorem two_reads : Reads Try.prog 55 2 (fun t : Int × Int => [.int .i64 t.1, .int .i64 t.2]) (fun t => I64 t.1 ∧ I64 t.2) :=
  (int_reads.array Try.underlying55 (by kernel_rfl)).map (fun g => (g 0, g 1)) _ _ (fun _ => rfl) (fun _ => rfl) (fun _ h => ⟨h 0 (by decide), h 1 (by decide)⟩)
end Go.Proofs.Ytolhfgjekomaaaa
