/-
  QuotaSums: whatever is handed in, the law returns true, and it reads behind the call as it read before. No condition.
-/
import Derived.Test.YtolhfgjekomaaaaPQ
import Derived.Test.YtolhfgjekomaaaaQ3
namespace Go.Proofs.Ytolhfgjekomaaaa
open Go.ChangeShapes Go.WideShapes Go.ChangeAt Go.RowKit Go.Bx

theorem quotaSums_lifted (os : Os) (started : os.Started) (H : Type) (enc : TypeId × Value → H) :
    ReturnsInHanded {} Try.checked os 13 .any (Rows.quotaSumsSpec.pre6 enc Try.prog Try.f13 Rows.quotaSumsRow.domain false) (Rows.quotaSumsSpec.post enc Try.prog Try.f13 false true false false) := by
  refine returnsInHanded_of_change (C := Try.checked) Try.own started (by kernel_rfl) Try.func13
    (ChangeSpec.witness6 (enc := enc) (C := Try.checked) false ⟨#[], #[.slice none 0 0, .agg #[.int .i64 0, .int .i64 0, .int .i64 0, .int .i64 0, .int .i64 0]], []⟩ 8 (by kernel_rfl) (by kernel_rfl) (by kernel_rfl) (by kernel_rfl)) ?_
  intro W base args ds gs before hval hW _ _
  refine law_calls (tb := 4) Try.laidOut (by kernel_rfl) (by kernel_rfl) Try.underlying4 rfl ?_ ?_ W base args ds gs before hval hW
  · intro ds hd
    match ds, hd with
    | [_, _], _ => rfl
  · intro W base args ds p hval hA
    rw [show Try.f13.params.toList = [51, 38] by kernel_rfl] at hA
    obtain ⟨v0, v1, d0, d1, p0, p1, rfl, rfl, _, h0, h1⟩ := trodAll_two hA
    obtain ⟨l, lk, r0⟩ := treaties_reads.cell (by kernel_rfl) (hval 0 51 v0 rfl rfl) h0
    obtain ⟨x, xk, r1⟩ := loss_reads.agg (by kernel_rfl) (hval 1 38 v1 rfl rfl) h1
    exact ⟨[.d (slT l), vX x], rfl, rel2 r0 r1, g13 l x⟩

theorem quotaSums_holds : Rows.QuotaSumsSaid :=
  OpenClaim.holds_of_wide 13 Try.f13 rfl rfl rfl rfl rfl rfl rfl ⟨rfl, rfl, rfl, rfl, rfl⟩ rfl rfl rfl rfl rfl (by kernel_rfl) Try.func13 (by kernel_rfl)
    (of_decide_eq_true (by kernel_rfl)) (by unfold Func.isWrapper; first | (rw [if_pos (by decide +kernel)]; kernel_rfl) | (rw [if_neg (by decide +kernel)]; exact ⟨rfl, rfl⟩))
    (fun os started H enc _ => quotaSums_lifted os started H enc)

end Go.Proofs.Ytolhfgjekomaaaa
