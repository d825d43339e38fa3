/-
  CoverRises: whatever cover and numbers are handed in, the law returns true, and they read behind the call as they read before. No condition.
-/
import Derived.Test.YtldfjldgbeeofaaPR
import Derived.Test.YtldfjldgbeeofaaB
namespace Go.Proofs.Ytldfjldgbeeofaa
open Go.ChangeShapes Go.WideShapes Go.ChangeAt Go.RowKit Go.Bx

theorem coverRises_lifted (os : Os) (started : os.Started) (H : Type) (enc : TypeId × Value → H) :
    ReturnsInHanded {} Try.checked os 5 .any (Rows.coverRisesSpec.pre6 enc Try.prog Try.f5 Rows.coverRisesRow.domain false) (Rows.coverRisesSpec.post enc Try.prog Try.f5 false true false false) := by
  refine returnsInHanded_of_change (C := Try.checked) Try.own started (by kernel_rfl) Try.func5
    (ChangeSpec.witness6 (enc := enc) (C := Try.checked) false ⟨#[], #[.agg #[.int .i64 0, .int .i64 0, .int .i64 0, .int .i64 0, .int .i64 0], .int .i64 0, .int .i64 0, .int .i64 0, .int .i64 0], []⟩ 8 (by kernel_rfl) (by kernel_rfl) (by kernel_rfl) (by kernel_rfl)) ?_
  intro W base args ds gs before hval hW _ _
  refine law_calls (tb := 4) Try.laidOut (by kernel_rfl) (by kernel_rfl) Try.underlying4 rfl ?_ ?_ W base args ds gs before hval hW
  · intro ds hd
    match ds, hd with
    | [_, _, _, _, _], _ => rfl
  · intro W base args ds p hval hA
    rw [show Try.f5.params.toList = [23, 3, 3, 3, 3] by kernel_rfl] at hA
    obtain ⟨v0, v1, v2, v3, v4, d0, d1, d2, d3, d4, p0, p1, p2, p3, p4, rfl, rfl, _, h0, h1, h2, h3, h4⟩ := trodAll_five hA
    obtain ⟨k, kk, r0⟩ := cover_reads.agg (by kernel_rfl) (hval 0 23 v0 rfl rfl) h0
    obtain ⟨a, ak, r1⟩ := int_reads.cell (by kernel_rfl) (hval 1 3 v1 rfl rfl) h1
    obtain ⟨b, bk, r2⟩ := int_reads.cell (by kernel_rfl) (hval 2 3 v2 rfl rfl) h2
    obtain ⟨d, dk, r3⟩ := int_reads.cell (by kernel_rfl) (hval 3 3 v3 rfl rfl) h3
    obtain ⟨e, ek, r4⟩ := int_reads.cell (by kernel_rfl) (hval 4 3 v4 rfl rfl) h4
    exact ⟨[vC k, .d (.int .i64 a), .d (.int .i64 b), .d (.int .i64 d), .d (.int .i64 e)], rfl, rel5 r0 r1 r2 r3 r4, s5 k a b d e kk.2.1 kk.2.2.1 kk.2.2.2.2.2⟩

theorem coverRises_holds : Rows.CoverRisesSaid :=
  OpenClaim.holds_of_wide 5 Try.f5 rfl rfl rfl rfl rfl rfl rfl ⟨rfl, rfl, rfl, rfl, rfl⟩ rfl rfl rfl rfl rfl (by kernel_rfl) Try.func5 (by kernel_rfl)
    (of_decide_eq_true (by kernel_rfl)) (by unfold Func.isWrapper; first | (rw [if_pos (by decide +kernel)]; kernel_rfl) | (rw [if_neg (by decide +kernel)]; exact ⟨rfl, rfl⟩))
    (fun os started H enc _ => coverRises_lifted os started H enc)

end Go.Proofs.Ytldfjldgbeeofaa
