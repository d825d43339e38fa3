/-
  QuotaMore: whatever is handed in, the law returns true, and it reads behind the call as it read before. No condition.
-/
import Derived.Test.YtolhfgjekomaaaaPQ
import Derived.Test.YtolhfgjekomaaaaQ3
namespace Go.Proofs.Ytolhfgjekomaaaa
open Go.ChangeShapes Go.WideShapes Go.ChangeAt Go.RowKit Go.Bx

theorem quotaMore_lifted (os : Os) (started : os.Started) (H : Type) (enc : TypeId × Value → H) :
    ReturnsInHanded {} Try.checked os 12 .any (Rows.quotaMoreSpec.pre6 enc Try.prog Try.f12 Rows.quotaMoreRow.domain false) (Rows.quotaMoreSpec.post enc Try.prog Try.f12 false true false false) := by
  refine returnsInHanded_of_change (C := Try.checked) Try.own started (by kernel_rfl) Try.func12
    (ChangeSpec.witness6 (enc := enc) (C := Try.checked) false ⟨#[], #[.agg #[.int .i64 0, .int .i64 0, .int .i64 0, .int .i64 0, .int .i64 0, .int .i64 0, .int .i64 0, .int .i64 0, .int .i64 0], .agg #[.int .i64 0, .int .i64 0, .int .i64 0, .int .i64 0, .int .i64 0], .agg #[.int .i64 0, .int .i64 0]], []⟩ 8 (by kernel_rfl) (by kernel_rfl) (by kernel_rfl) (by kernel_rfl)) ?_
  intro W base args ds gs before hval hW _ _
  refine law_calls (tb := 4) Try.laidOut (by kernel_rfl) (by kernel_rfl) Try.underlying4 rfl ?_ ?_ W base args ds gs before hval hW
  · intro ds hd
    match ds, hd with
    | [_, _, _], _ => rfl
  · intro W base args ds p hval hA
    rw [show Try.f12.params.toList = [25, 38, 55] by kernel_rfl] at hA
    obtain ⟨v0, v1, v2, d0, d1, d2, p0, p1, p2, rfl, rfl, _, h0, h1, h2⟩ := trodAll_three hA
    obtain ⟨t, tk, r0⟩ := treaty_reads.agg (by kernel_rfl) (hval 0 25 v0 rfl rfl) h0
    obtain ⟨x, xk, r1⟩ := loss_reads.agg (by kernel_rfl) (hval 1 38 v1 rfl rfl) h1
    obtain ⟨z, zk, r2⟩ := two_reads.agg (by kernel_rfl) (hval 2 55 v2 rfl rfl) h2
    exact ⟨[vT t, vX x, .ag [.d (.int .i64 z.1), .d (.int .i64 z.2)]], rfl, rel3 r0 r1 r2, g12 t x z.1 z.2⟩

theorem quotaMore_holds : Rows.QuotaMoreSaid :=
  OpenClaim.holds_of_wide 12 Try.f12 rfl rfl rfl rfl rfl rfl rfl ⟨rfl, rfl, rfl, rfl, rfl⟩ rfl rfl rfl rfl rfl (by kernel_rfl) Try.func12 (by kernel_rfl)
    (of_decide_eq_true (by kernel_rfl)) (by unfold Func.isWrapper; first | (rw [if_pos (by decide +kernel)]; kernel_rfl) | (rw [if_neg (by decide +kernel)]; exact ⟨rfl, rfl⟩))
    (fun os started H enc _ => quotaMore_lifted os started H enc)

end Go.Proofs.Ytolhfgjekomaaaa
