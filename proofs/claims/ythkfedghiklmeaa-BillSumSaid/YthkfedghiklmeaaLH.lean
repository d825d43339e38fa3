/-
  BillSum: whatever is handed in, the law returns true, and it reads behind the call as it read before. No condition.
-/
import Derived.Test.YthkfedghiklmeaaPR
import Derived.Test.YthkfedghiklmeaaH3
namespace Go.Proofs.Ythkfedghiklmeaa
open Go.ChangeShapes Go.WideShapes Go.ChangeAt Go.RowKit Go.Bx

theorem billSum_lifted (os : Os) (started : os.Started) (H : Type) (enc : TypeId × Value → H) :
    ReturnsInHanded {} Try.checked os 10 .any (Rows.billSumSpec.pre6 enc Try.prog Try.f10 Rows.billSumRow.domain false) (Rows.billSumSpec.post enc Try.prog Try.f10 false true false false) := by
  refine returnsInHanded_of_change (C := Try.checked) Try.own started (by kernel_rfl) Try.func10
    (ChangeSpec.witness6 (enc := enc) (C := Try.checked) false ⟨#[], #[.slice none 0 0, .int .i64 0, .int .i64 0, .int .i64 0, .agg #[.int .i64 0, .int .i64 0], .int .i64 0], []⟩ 8 (by kernel_rfl) (by kernel_rfl) (by kernel_rfl) (by kernel_rfl)) ?_
  intro W base args ds gs before hval hW _ _
  refine law_calls (tb := 4) Try.laidOut (by kernel_rfl) (by kernel_rfl) Try.underlying4 rfl ?_ ?_ W base args ds gs before hval hW
  · intro ds hd
    match ds, hd with
    | [_, _, _, _, _, _], _ => rfl
  · intro W base args ds p hval hA
    rw [show Try.f10.params.toList = [25, 3, 3, 3, 23, 3] by kernel_rfl] at hA
    obtain ⟨v0, v1, v2, v3, v4, v5, d0, d1, d2, d3, d4, d5, p0, p1, p2, p3, p4, p5, rfl, rfl, _, h0, h1, h2, h3, h4, h5⟩ := trodAll_six hA
    obtain ⟨l, lk, r0⟩ := bills_reads.cell (by kernel_rfl) (hval 0 25 v0 rfl rfl) h0
    obtain ⟨a, ak, r1⟩ := int_reads.cell (by kernel_rfl) (hval 1 3 v1 rfl rfl) h1
    obtain ⟨b, bk, r2⟩ := int_reads.cell (by kernel_rfl) (hval 2 3 v2 rfl rfl) h2
    obtain ⟨c, ck, r3⟩ := int_reads.cell (by kernel_rfl) (hval 3 3 v3 rfl rfl) h3
    obtain ⟨s, sk, r4⟩ := span_reads.agg (by kernel_rfl) (hval 4 23 v4 rfl rfl) h4
    obtain ⟨n, nk, r5⟩ := int_reads.cell (by kernel_rfl) (hval 5 3 v5 rfl rfl) h5
    exact ⟨[.d (slL l), .d (.int .i64 a), .d (.int .i64 b), .d (.int .i64 c), vS s.1 s.2, .d (.int .i64 n)], rfl, rel6 r0 r1 r2 r3 r4 r5, lSum l a b c s.1 s.2 n lk⟩

theorem billSum_holds : Rows.BillSumSaid :=
  OpenClaim.holds_of_wide 10 Try.f10 rfl rfl rfl rfl rfl rfl rfl ⟨rfl, rfl, rfl, rfl, rfl⟩ rfl rfl rfl rfl rfl (by kernel_rfl) Try.func10 (by kernel_rfl)
    (of_decide_eq_true (by kernel_rfl)) (by unfold Func.isWrapper; first | (rw [if_pos (by decide +kernel)]; kernel_rfl) | (rw [if_neg (by decide +kernel)]; exact ⟨rfl, rfl⟩))
    (fun os started H enc _ => billSum_lifted os started H enc)

end Go.Proofs.Ythkfedghiklmeaa
