import Derived.Test.YthkfedghiklmeaaEngL
import Derived.Test.YthkfedghiklmeaaI
namespace Go.Proofs.Ythkfedghiklmeaa
open Go.ChangeShapes Go.WideShapes Go.ChangeAt Go.RowKit Go.Bx

theorem Try.own : ownKnob Try.prog.godebug = none := by kernel_rfl
theorem Try.laidOut : laidOutB Try.prog = true := by kernel_rfl
theorem wf_i64 {n : Int} (h : (Lit.int .i64 n).wf = true) : I64 n := by
  simp only [Lit.wf, Bool.and_eq_true, decide_eq_true_eq] at h
  have e1 : IntKind.i64.min = -9223372036854775808 := by decide +kernel
  have e2 : IntKind.i64.max = 9223372036854775807 := by decide +kernel
  unfold I64; omega
theorem int_reads : Reads Try.prog 3 1 (fun n : Int => [.int .i64 n]) I64 :=
  (Reads.int Try.underlying3 (by kernel_rfl)).map id _ _ (fun _ => rfl) (fun _ => rfl) (fun _ h => wf_i64 h)
end Go.Proofs.Ythkfedghiklmeaa
