import Derived.Test.YthkfedghiklmeaaRB
import Derived.Test.YthkfedghiklmeaaRB6
import Derived.Test.YthkfedghiklmeaaG
namespace Go.Proofs.Ythkfedghiklmeaa
open Go.ChangeShapes Go.WideShapes Go.ChangeAt Go.RowKit Go.Bx

theorem bill_reads : Reads Try.prog 41 3 (fun b : Bl => [.int .i64 b.du, .int .i64 b.am, .int .i64 b.pa]) (fun _ => True) :=
  (Reads.struct Try.underlying41 (FR.cons rfl int_reads (FR.cons rfl int_reads (FR.cons rfl int_reads FR.nil))) (by kernel_rfl)).map (fun x => ⟨x.1, x.2.1, x.2.2.1⟩) _ _ (fun _ => rfl) (fun _ => rfl) (fun _ _ => trivial)
theorem bills_reads : Reads Try.prog 25 1 (fun l : List Bl => [slL l]) (fun l => l.length ≤ 9223372036854775807) :=
  (bill_reads.slice Try.underlying25 (by kernel_rfl) (by decide)).map id _ _ (fun _ => rfl) (fun _ => rfl) (fun _ h => h.1)
theorem span_reads : Reads Try.prog 23 2 (fun l : Int × Int => [.int .i64 l.1, .int .i64 l.2]) (fun _ => True) :=
  (Reads.struct Try.underlying23 (FR.cons rfl int_reads (FR.cons rfl int_reads FR.nil)) (by kernel_rfl)).map (fun x => (x.1, x.2.1)) _ _ (fun _ => rfl) (fun _ => rfl) (fun _ _ => trivial)
end Go.Proofs.Ythkfedghiklmeaa
