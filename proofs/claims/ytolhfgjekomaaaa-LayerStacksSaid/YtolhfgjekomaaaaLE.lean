/-
  LayerStacks: whatever numbers are handed in, the law returns true, and they read behind the call as they read before. No condition.
-/
import Derived.Test.YtolhfgjekomaaaaPR
import Derived.Test.YtolhfgjekomaaaaB
namespace Go.Proofs.Ytolhfgjekomaaaa
open Go.ChangeShapes Go.WideShapes Go.ChangeAt Go.RowKit Go.Bx

theorem layerStacks_lifted (os : Os) (started : os.Started) (H : Type) (enc : TypeId × Value → H) :
    ReturnsInHanded {} Try.checked os 7 .any (Rows.layerStacksSpec.pre6 enc Try.prog Try.f7 Rows.layerStacksRow.domain false) (Rows.layerStacksSpec.post enc Try.prog Try.f7 false true false false) := by
  refine returnsInHanded_of_change (C := Try.checked) Try.own started (by kernel_rfl) Try.func7
    (ChangeSpec.witness6 (enc := enc) (C := Try.checked) false ⟨#[], #[.int .u32 0, .int .u32 0, .int .u32 0, .int .u8 0, .slice none 0 0], []⟩ 8 (by kernel_rfl) (by kernel_rfl) (by kernel_rfl) (by kernel_rfl)) ?_
  intro W base args ds gs before hval hW _ _
  refine law_calls (tb := 4) Try.laidOut (by kernel_rfl) (by kernel_rfl) Try.underlying4 rfl ?_ ?_ W base args ds gs before hval hW
  · intro ds hd
    match ds, hd with
    | [_, _, _, _, _], _ => rfl
  · intro W base args ds p hval hA
    rw [show Try.f7.params.toList = [42, 42, 42, 5, 43] by kernel_rfl] at hA
    obtain ⟨v0, v1, v2, v3, v4, d0, d1, d2, d3, d4, p0, p1, p2, p3, p4, rfl, rfl, _, h0, h1, h2, h3, h4⟩ := trodAll_five hA
    obtain ⟨h, hk, r0⟩ := u32_reads.cell (by kernel_rfl) (hval 0 42 v0 rfl rfl) h0
    obtain ⟨w, wk, r1⟩ := u32_reads.cell (by kernel_rfl) (hval 1 42 v1 rfl rfl) h1
    obtain ⟨z, zk, r2⟩ := u32_reads.cell (by kernel_rfl) (hval 2 42 v2 rfl rfl) h2
    obtain ⟨g, gk, r3⟩ := u8_reads.cell (by kernel_rfl) (hval 3 5 v3 rfl rfl) h3
    obtain ⟨l, lk, r4⟩ := u64s_reads.cell (by kernel_rfl) (hval 4 43 v4 rfl rfl) h4
    exact ⟨[.d (.int .u32 h), .d (.int .u32 w), .d (.int .u32 z), .d (.int .u8 g), .d (slK .u64 l)], rfl, rel5 r0 r1 r2 r3 r4, s7 h w z g l hk wk zk gk lk.1 (fun v hv => (lk.2 v hv).1)⟩

theorem layerStacks_holds : Rows.LayerStacksSaid :=
  OpenClaim.holds_of_wide 7 Try.f7 rfl rfl rfl rfl rfl rfl rfl ⟨rfl, rfl, rfl, rfl, rfl⟩ rfl rfl rfl rfl rfl (by kernel_rfl) Try.func7 (by kernel_rfl)
    (of_decide_eq_true (by kernel_rfl)) (by unfold Func.isWrapper; first | (rw [if_pos (by decide +kernel)]; kernel_rfl) | (rw [if_neg (by decide +kernel)]; exact ⟨rfl, rfl⟩))
    (fun os started H enc _ => layerStacks_lifted os started H enc)

end Go.Proofs.Ytolhfgjekomaaaa
