/-
  CoverAll: whatever cover and losses are handed in, the law returns true, and they read behind the call as they read before. No condition.
-/
import Derived.Test.YtldfjldgbeeofaaPR
import Derived.Test.YtldfjldgbeeofaaB
namespace Go.Proofs.Ytldfjldgbeeofaa
open Go.ChangeShapes Go.WideShapes Go.ChangeAt Go.RowKit Go.Bx

theorem coverAll_lifted (os : Os) (started : os.Started) (H : Type) (enc : TypeId × Value → H) :
    ReturnsInHanded {} Try.checked os 6 .any (Rows.coverAllSpec.pre6 enc Try.prog Try.f6 Rows.coverAllRow.domain false) (Rows.coverAllSpec.post enc Try.prog Try.f6 false true false false) := by
  refine returnsInHanded_of_change (C := Try.checked) Try.own started (by kernel_rfl) Try.func6
    (ChangeSpec.witness6 (enc := enc) (C := Try.checked) false ⟨#[], #[.agg #[.int .i64 0, .int .i64 0, .int .i64 0, .int .i64 0, .int .i64 0], .slice none 0 0], []⟩ 8 (by kernel_rfl) (by kernel_rfl) (by kernel_rfl) (by kernel_rfl)) ?_
  intro W base args ds gs before hval hW _ _
  refine law_calls (tb := 4) Try.laidOut (by kernel_rfl) (by kernel_rfl) Try.underlying4 rfl ?_ ?_ W base args ds gs before hval hW
  · intro ds hd
    match ds, hd with
    | [_, _], _ => rfl
  · intro W base args ds p hval hA
    rw [show Try.f6.params.toList = [23, 29] by kernel_rfl] at hA
    obtain ⟨v0, v1, d0, d1, p0, p1, rfl, rfl, _, h0, h1⟩ := trodAll_two hA
    obtain ⟨k, kk, r0⟩ := cover_reads.agg (by kernel_rfl) (hval 0 23 v0 rfl rfl) h0
    obtain ⟨l, lk, r1⟩ := ints_reads.cell (by kernel_rfl) (hval 1 29 v1 rfl rfl) h1
    exact ⟨[vC k, .d (slK .i64 l)], rfl, rel2 r0 r1, s6 k l kk.2.1 kk.2.2.1 kk.2.2.2.2.2 lk.1 (fun x hx => (lk.2 x hx).2)⟩

theorem coverAll_holds : Rows.CoverAllSaid :=
  OpenClaim.holds_of_wide 6 Try.f6 rfl rfl rfl rfl rfl rfl rfl ⟨rfl, rfl, rfl, rfl, rfl⟩ rfl rfl rfl rfl rfl (by kernel_rfl) Try.func6 (by kernel_rfl)
    (of_decide_eq_true (by kernel_rfl)) (by unfold Func.isWrapper; first | (rw [if_pos (by decide +kernel)]; kernel_rfl) | (rw [if_neg (by decide +kernel)]; exact ⟨rfl, rfl⟩))
    (fun os started H enc _ => coverAll_lifted os started H enc)

end Go.Proofs.Ytldfjldgbeeofaa
