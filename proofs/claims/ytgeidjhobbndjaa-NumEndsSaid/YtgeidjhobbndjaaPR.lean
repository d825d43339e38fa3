import Derived.Test.YtgeidjhobbndjaaEngL
import Derived.Test.YtgeidjhobbndjaaP
namespace Go.Proofs.Ytgeidjhobbndjaa
open Go.ChangeShapes Go.WideShapes Go.ChangeAt Go.RowKit Go.Bx

theorem Try.own : ownKnob Try.prog.godebug = none := by kernel_rfl
theorem Try.laidOut : laidOutB Try.prog = true := by kernel_rfl

theorem wf_i64 {n : Int} (h : (Lit.int .i64 n).wf = true) : n ≤ 9223372036854775807 := by
  simp only [Lit.wf, Bool.and_eq_true, decide_eq_true_eq] at h
  have e2 : IntKind.i64.max = 9223372036854775807 := by decide +kernel
  omega
theorem int_reads : Reads Try.prog 3 1 (fun n : Int => [.int .i64 n]) (fun n => n ≤ 9223372036854775807) :=
  (Reads.int Try.underlying3 (by kernel_rfl)).map id _ _ (fun _ => rfl) (fun _ => rfl) (fun _ h => wf_i64 h)
theorem ints_reads : Reads Try.prog 28 1 (fun l : List Int => [slK .i64 l]) (fun l => l.length ≤ 9223372036854775807 ∧ ∀ x, x ∈ l → x ≤ 9223372036854775807) :=
  (int_reads.slice Try.underlying28 (by kernel_rfl) (by decide)).map id _ _ (fun _ => rfl) (fun _ => rfl) (fun _ h => h)
theorem three_reads : Reads Try.prog 37 3 (fun t : Int × Int × Int => [.int .i64 t.1, .int .i64 t.2.1, .int .i64 t.2.2]) (fun t => t.1 ≤ 9223372036854775807 ∧ t.2.1 ≤ 9223372036854775807 ∧ t.2.2 ≤ 9223372036854775807) :=
  (int_reads.array Try.underlying37 (by kernel_rfl)).map (fun g => (g 0, g 1, g 2)) _ _ (fun _ => rfl) (fun _ => rfl) (fun _ h => ⟨h 0 (by decide), h 1 (by decide), h 2 (by decide)⟩)
theorem two_reads : Reads Try.prog 38 2 (fun t : Int × Int => [.int .i64 t.1, .int .i64 t.2]) (fun t => t.1 ≤ 9223372036854775807 ∧ t.2 ≤ 9223372036854775807) :=
  (int_reads.array Try.underlying38 (by kernel_rfl)).map (fun g => (g 0, g 1)) _ _ (fun _ => rfl) (fun _ => rfl) (fun _ h => ⟨h 0 (by decide), h 1 (by decide)⟩)
end Go.Proofs.Ytgeidjhobbndjaa
