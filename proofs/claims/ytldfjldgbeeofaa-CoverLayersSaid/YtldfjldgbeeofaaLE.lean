/-
  CoverLayers: whatever numbers are handed in, the law returns true, and they read behind the call as they read before. No condition.
-/
import Derived.Test.YtldfjldgbeeofaaPR
import Derived.Test.YtldfjldgbeeofaaB
namespace Go.Proofs.Ytldfjldgbeeofaa
open Go.ChangeShapes Go.WideShapes Go.ChangeAt Go.RowKit Go.Bx

theorem coverLayers_lifted (os : Os) (started : os.Started) (H : Type) (enc : TypeId × Value → H) :
    ReturnsInHanded {} Try.checked os 7 .any (Rows.coverLayersSpec.pre6 enc Try.prog Try.f7 Rows.coverLayersRow.domain false) (Rows.coverLayersSpec.post enc Try.prog Try.f7 false true false false) := by
  refine returnsInHanded_of_change (C := Try.checked) Try.own started (by kernel_rfl) Try.func7
    (ChangeSpec.witness6 (enc := enc) (C := Try.checked) false ⟨#[], #[.int .u32 0, .int .u32 0, .int .u32 0, .int .u64 0], []⟩ 8 (by kernel_rfl) (by kernel_rfl) (by kernel_rfl) (by kernel_rfl)) ?_
  intro W base args ds gs before hval hW _ _
  refine law_calls (tb := 4) Try.laidOut (by kernel_rfl) (by kernel_rfl) Try.underlying4 rfl ?_ ?_ W base args ds gs before hval hW
  · intro ds hd
    match ds, hd with
    | [_, _, _, _], _ => rfl
  · intro W base args ds p hval hA
    rw [show Try.f7.params.toList = [31, 31, 31, 32] by kernel_rfl] at hA
    obtain ⟨v0, v1, v2, v3, d0, d1, d2, d3, p0, p1, p2, p3, rfl, rfl, _, h0, h1, h2, h3⟩ := trodAll_four hA
    obtain ⟨a, ak, r0⟩ := u32_reads.cell (by kernel_rfl) (hval 0 31 v0 rfl rfl) h0
    obtain ⟨b, bk, r1⟩ := u32_reads.cell (by kernel_rfl) (hval 1 31 v1 rfl rfl) h1
    obtain ⟨d, dk, r2⟩ := u32_reads.cell (by kernel_rfl) (hval 2 31 v2 rfl rfl) h2
    obtain ⟨e, ek, r3⟩ := u64_reads.cell (by kernel_rfl) (hval 3 32 v3 rfl rfl) h3
    exact ⟨[.d (.int .u32 a), .d (.int .u32 b), .d (.int .u32 d), .d (.int .u64 e)], rfl, rel4 r0 r1 r2 r3, s7 a b d e ak bk dk ek.1⟩

theorem coverLayers_holds : Rows.CoverLayersSaid :=
  OpenClaim.holds_of_wide 7 Try.f7 rfl rfl rfl rfl rfl rfl rfl ⟨rfl, rfl, rfl, rfl, rfl⟩ rfl rfl rfl rfl rfl (by kernel_rfl) Try.func7 (by kernel_rfl)
    (of_decide_eq_true (by kernel_rfl)) (by unfold Func.isWrapper; first | (rw [if_pos (by decide +kernel)]; kernel_rfl) | (rw [if_neg (by decide +kernel)]; exact ⟨rfl, rfl⟩))
    (fun os started H enc _ => coverLayers_lifted os started H enc)

end Go.Proofs.Ytldfjldgbeeofaa
