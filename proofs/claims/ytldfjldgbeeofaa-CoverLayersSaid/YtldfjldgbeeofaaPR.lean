import Derived.Test.YtldfjldgbeeofaaEngL
import Derived.Test.YtldfjldgbeeofaaB
namespace Go.Proofs.Ytldfjldgbeeofaa
open Go.ChangeShapes Go.WideShapes Go.ChangeAt Go.RowKit Go.Bx

theorem Try.own : ownKnob Try.prog.godebug = none := by kernel_rfl
theorem Try.laidOut : laidOutB Try.prog = true := by kernel_rfl

theorem wf_i64 {n : Int} (h : (Lit.int .i64 n).wf = true) : I64 n := by
  simp only [Lit.wf, Bool.and_eq_true, decide_eq_true_eq] at h
  have e1 : IntKind.i64.min = -9223372036854775808 := by decide +kernel
  have e2 : IntKind.i64.max = 9223372036854775807 := by decide +kernel
  unfold I64; omega
theorem wf_u32 {n : Int} (h : (Lit.int .u32 n).wf = true) : 0 ≤ n ∧ n ≤ 4294967295 := by
  simp only [Lit.wf, Bool.and_eq_true, decide_eq_true_eq] at h
  have e1 : IntKind.u32.min = 0 := by decide +kernel
  have e2 : IntKind.u32.max = 4294967295 := by decide +kernel
  omega
theorem wf_u64 {n : Int} (h : (Lit.int .u64 n).wf = true) : 0 ≤ n ∧ n ≤ 18446744073709551615 := by
  simp only [Lit.wf, Bool.and_eq_true, decide_eq_true_eq] at h
  have e1 : IntKind.u64.min = 0 := by decide +kernel
  have e2 : IntKind.u64.max = 18446744073709551615 := by decide +kernel
  omega
theorem int_reads : Reads Try.prog 3 1 (fun n : Int => [.int .i64 n]) I64 :=
  (Reads.int Try.underlying3 (by kernel_rfl)).map id _ _ (fun _ => rfl) (fun _ => rfl) (fun _ h => wf_i64 h)
theorem u32_reads : Reads Try.prog 31 1 (fun n : Int => [.int .u32 n]) (fun n => 0 ≤ n ∧ n ≤ 4294967295) :=
  (Reads.int Try.underlying31 (by kernel_rfl)).map id _ _ (fun _ => rfl) (fun _ => rfl) (fun _ h => wf_u32 h)
theorem u64_reads : Reads Try.prog 32 1 (fun n : Int => [.int .u64 n]) (fun n => 0 ≤ n ∧ n ≤ 18446744073709551615) :=
  (Reads.int Try.underlying32 (by kernel_rfl)).map id _ _ (fun _ => rfl) (fun _ => rfl) (fun _ h => wf_u64 h)
theorem ints_reads : Reads Try.prog 29 1 (fun l : List Int => [slK .i64 l]) (fun l => l.length ≤ 9223372036854775807 ∧ ∀ x, x ∈ l → I64 x) :=
  (int_reads.slice Try.underlying29 (by kernel_rfl) (by decide)).map id _ _ (fun _ => rfl) (fun _ => rfl) (fun _ h => h)
def okC (c : Cv) : Prop := I64 c.pe ∧ I64 c.li ∧ I64 c.ag ∧ I64 c.de ∧ I64 c.sh
theorem cover_reads : Reads Try.prog 23 5 (fun c : Cv => [.int .i64 c.pe, .int .i64 c.li, .int .i64 c.ag, .int .i64 c.de, .int .i64 c.sh]) okC :=
  (Reads.struct Try.underlying23 (FR.cons rfl int_reads (FR.cons rfl int_reads (FR.cons rfl int_reads (FR.cons rfl int_reads (FR.cons rfl int_reads FR.nil))))) (by kernel_rfl)).map (fun x => ⟨x.1, x.2.1, x.2.2.1, x.2.2.2.1, x.2.2.2.2.1⟩) _ _ (fun _ => rfl) (fun _ => rfl) (fun _ h => ⟨h.1, h.2.1, h.2.2.1, h.2.2.2.1, h.2.2.2.2.1⟩)
end Go.Proofs.Ytldfjldgbeeofaa
