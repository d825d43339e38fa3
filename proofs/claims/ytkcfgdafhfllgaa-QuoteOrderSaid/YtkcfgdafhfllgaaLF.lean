/-
  QuoteOrder: whatever is handed in, the law returns true, and it reads behind the call as it read before. No condition.
-/
import Derived.Test.YtkcfgdafhfllgaaPR
import Derived.Test.YtkcfgdafhfllgaaH2
namespace Go.Proofs.Ytkcfgdafhfllgaa
open Go.ChangeShapes Go.WideShapes Go.ChangeAt Go.RowKit Go.Bx

theorem quoteOrder_lifted (os : Os) (started : os.Started) (H : Type) (enc : TypeId × Value → H) :
    ReturnsInHanded {} Try.checked os 8 .any (Rows.quoteOrderSpec.pre6 enc Try.prog Try.f8 Rows.quoteOrderRow.domain false) (Rows.quoteOrderSpec.post enc Try.prog Try.f8 false true false false) := by
  refine returnsInHanded_of_change (C := Try.checked) Try.own started (by kernel_rfl) Try.func8
    (ChangeSpec.witness6 (enc := enc) (C := Try.checked) false ⟨#[], #[.agg #[.int .i64 0, .int .i64 0, .int .i64 0, .int .i64 0, .int .i64 0, .slice none 0 0, .slice none 0 0, .slice none 0 0, .int .i64 0], .agg #[.int .i64 0, .int .i64 0, .int .i64 0, .int .i64 0], .slice none 0 0], []⟩ 8 (by kernel_rfl) (by kernel_rfl) (by kernel_rfl) (by kernel_rfl)) ?_
  intro W base args ds gs before hval hW _ _
  refine law_calls (tb := 4) Try.laidOut (by kernel_rfl) (by kernel_rfl) Try.underlying4 rfl ?_ ?_ W base args ds gs before hval hW
  · intro ds hd
    match ds, hd with
    | [_, _, _], _ => rfl
  · intro W base args ds p hval hA
    rw [show Try.f8.params.toList = [26, 28, 37] by kernel_rfl] at hA
    obtain ⟨v0, v1, v2, d0, d1, d2, p0, p1, p2, rfl, rfl, _, h0, h1, h2⟩ := trodAll_three hA
    obtain ⟨v, vk, r0⟩ := version_reads.agg (by kernel_rfl) (hval 0 26 v0 rfl rfl) h0
    obtain ⟨r, rk, r1⟩ := risk_reads.agg (by kernel_rfl) (hval 1 28 v1 rfl rfl) h1
    obtain ⟨l, lk, r2⟩ := covers_reads.cell (by kernel_rfl) (hval 2 37 v2 rfl rfl) h2
    exact ⟨[vV v, vR r, .d (slC l)], rfl, rel3 r0 r1 r2, lOrder v r l vk lk.1⟩

theorem quoteOrder_holds : Rows.QuoteOrderSaid :=
  OpenClaim.holds_of_wide 8 Try.f8 rfl rfl rfl rfl rfl rfl rfl ⟨rfl, rfl, rfl, rfl, rfl⟩ rfl rfl rfl rfl rfl (by kernel_rfl) Try.func8 (by kernel_rfl)
    (of_decide_eq_true (by kernel_rfl)) (by unfold Func.isWrapper; first | (rw [if_pos (by decide +kernel)]; kernel_rfl) | (rw [if_neg (by decide +kernel)]; exact ⟨rfl, rfl⟩))
    (fun os started H enc _ => quoteOrder_lifted os started H enc)

end Go.Proofs.Ytkcfgdafhfllgaa
