import Derived.Test.YtolhfgjekomaaaaEngL
import Derived.Test.YtolhfgjekomaaaaA
namespace Go.Proofs.Ytolhfgjekomaaaa
open Go.ChangeShapes Go.WideShapes Go.ChangeAt Go.RowKit Go.Bx

theorem Try.own : ownKnob Try.prog.godebug = none := by kernel_rfl
theorem Try.laidOut : laidOutB Try.prog = true := by kernel_rfl

def I64 (n : Int) : Prop := -9223372036854775808 ≤ n ∧ n ≤ 9223372036854775807
theorem wf_i64 {n : Int} (h : (Lit.int .i64 n).wf = true) : I64 n := by
  simp only [Lit.wf, Bool.and_eq_true, decide_eq_true_eq] at h
  have e1 : IntKind.i64.min = -9223372036854775808 := by decide +kernel
  have e2 : IntKind.i64.max = 9223372036854775807 := by decide +kernel
  unfold I64; omega
theorem wf_u32 {n : Int} (h : (Lit.int .u32 n).wf = true) : 0 ≤ n ∧ n ≤ 4294967295 := by
  simp only [Lit.wf, Bool.and_eq_true, decide_eq_true_eq] at h
  have e1 : IntKind.u32.min = 0 := by decide +kernel
  have e2 : IntKind.u32.max = 4294967295 := by decide +kernel
  omega
theorem wf_u8 {n : Int} (h : (Lit.int .u8 n).wf = true) : 0 ≤ n ∧ n ≤ 255 := by
  simp only [Lit.wf, Bool.and_eq_true, decide_eq_true_eq] at h
  have e1 : IntKind.u8.min = 0 := by decide +kernel
  have e2 : IntKind.u8.max = 255 := by decide +kernel
  omega
theorem wf_u64 {n : Int} (h : (Lit.int .u64 n).wf = true) : 0 ≤ n ∧ n ≤ 18446744073709551615 := by
  simp only [Lit.wf, Bool.and_eq_true, decide_eq_true_eq] at h
  have e1 : IntKind.u64.min = 0 := by decide +kernel
  have e2 : IntKind.u64.max = 18446744073709551615 := by decide +kernel
  omega
theorem int_reads : Reads Try.prog 3 1 (fun n : Int => [.int .i64 n]) I64 :=
  (Reads.int Try.underlying3 (by kernel_rfl)).map id _ _ (fun _ => rfl) (fun _ => rfl) (fun _ h => wf_i64 h)
theorem u32_reads : Reads Try.prog 42 1 (fun n : Int => [.int .u32 n]) (fun n => 0 ≤ n ∧ n ≤ 4294967295) :=
  (Reads.int Try.underlying42 (by kernel_rfl)).map id _ _ (fun _ => rfl) (fun _ => rfl) (fun _ h => wf_u32 h)
theorem u8_reads : Reads Try.prog 5 1 (fun n : Int => [.int .u8 n]) (fun n => 0 ≤ n ∧ n ≤ 255) :=
  (Reads.int Try.underlying5 (by kernel_rfl)).map id _ _ (fun _ => rfl) (fun _ => rfl) (fun _ h => wf_u8 h)
theorem u64_reads : Reads Try.prog 45 1 (fun n : Int => [.int .u64 n]) (fun n => 0 ≤ n ∧ n ≤ 18446744073709551615) :=
  (Reads.int Try.underlying45 (by kernel_rfl)).map id _ _ (fun _ => rfl) (fun _ => rfl) (fun _ h => wf_u64 h)
theorem u64s_reads : Reads Try.prog 43 1 (fun l : List Int => [slK .u64 l]) (fun l => l.length ≤ 9223372036854775807 ∧ ∀ x, x ∈ l → 0 ≤ x ∧ x ≤ 18446744073709551615) :=
  (u64_reads.slice Try.underlying43 (by kernel_rfl) (by decide)).map id _ _ (fun _ => rfl) (fun _ => rfl) (fun _ h => h)
theorem span_reads : Reads Try.prog 23 2 (fun l : Int × Int => [.int .i64 l.1, .int .i64 l.2]) (fun l => I64 l.1 ∧ I64 l.2) :=
  (Reads.struct Try.underlying23 (FR.cons rfl int_reads (FR.cons rfl int_reads FR.nil)) (by kernel_rfl)).map (fun x => (x.1, x.2.1)) _ _ (fun _ => rfl) (fun _ => rfl) (fun _ h => ⟨h.1, h.2.1⟩)
def okX (x : Ls) : Prop := I64 x.cl ∧ I64 x.ev ∧ I64 x.day ∧ I64 x.per ∧ I64 x.amt
def okT (t : Tr) : Prop := I64 t.id ∧ I64 t.kind ∧ I64 t.sf ∧ I64 t.st ∧ I64 t.bp ∧ I64 t.att ∧ I64 t.wid ∧ I64 t.aga ∧ I64 t.per
theorem loss_reads : Reads Try.prog 38 5 (fun x : Ls => [.int .i64 x.cl, .int .i64 x.ev, .int .i64 x.day, .int .i64 x.per, .int .i64 x.amt]) okX :=
  (Reads.struct Try.underlying38 (FR.cons rfl int_reads (FR.cons rfl int_reads (FR.cons rfl int_reads (FR.cons rfl int_reads (FR.cons rfl int_reads FR.nil))))) (by kernel_rfl)).map (fun x => ⟨x.1, x.2.1, x.2.2.1, x.2.2.2.1, x.2.2.2.2.1⟩) _ _ (fun _ => rfl) (fun _ => rfl) (fun _ h => ⟨h.1, h.2.1, h.2.2.1, h.2.2.2.1, h.2.2.2.2.1⟩)
theorem losses_reads : Reads Try.prog 26 1 (fun l : List Ls => [slX l]) (fun l => l.length ≤ 9223372036854775807 ∧ ∀ x, x ∈ l → okX x) :=
  (loss_reads.slice Try.underlying26 (by kernel_rfl) (by decide)).map id _ _ (fun _ => rfl) (fun _ => rfl) (fun _ h => h)
theorem treaty_reads : Reads Try.prog 25 9 (fun t : Tr => [.int .i64 t.id, .int .i64 t.kind, .int .i64 t.sf, .int .i64 t.st, .int .i64 t.bp, .int .i64 t.att, .int .i64 t.wid, .int .i64 t.aga, .int .i64 t.per]) okT :=
  (Reads.struct Try.underlying25 (FR.cons rfl int_reads (FR.cons rfl int_reads (FR.cons rfl span_reads (FR.cons rfl int_reads (FR.cons rfl int_reads (FR.cons rfl int_reads (FR.cons rfl int_reads (FR.cons rfl int_reads FR.nil)))))))) (by kernel_rfl)).map (fun x => ⟨x.1, x.2.1, x.2.2.1.1, x.2.2.1.2, x.2.2.2.1, x.2.2.2.2.1, x.2.2.2.2.2.1, x.2.2.2.2.2.2.1, x.2.2.2.2.2.2.2.1⟩) _ _ (fun _ => rfl) (fun _ => rfl) (fun _ h => ⟨h.1, h.2.1, h.2.2.1.1, h.2.2.1.2, h.2.2.2.1, h.2.2.2.2.1, h.2.2.2.2.2.1, h.2.2.2.2.2.2.1, h.2.2.2.2.2.2.2.1⟩)
end Go.Proofs.Ytolhfgjekomaaaa
