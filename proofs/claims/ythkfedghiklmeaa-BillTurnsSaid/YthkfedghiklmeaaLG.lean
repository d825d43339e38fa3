/-
  BillTurns: whatever is handed in, the law returns true, and it reads behind the call as it read before. No condition.
-/
import Derived.Test.YthkfedghiklmeaaPR
namespace Go.Proofs.Ythkfedghiklmeaa
open Go.ChangeShapes Go.WideShapes Go.ChangeAt Go.RowKit Go.Bx

theorem billTurns_lifted (os : Os) (started : os.Started) (H : Type) (enc : TypeId × Value → H) :
    ReturnsInHanded {} Try.checked os 9 .any (Rows.billTurnsSpec.pre6 enc Try.prog Try.f9 Rows.billTurnsRow.domain false) (Rows.billTurnsSpec.post enc Try.prog Try.f9 false true false false) := by
  refine returnsInHanded_of_change (C := Try.checked) Try.own started (by kernel_rfl) Try.func9
    (ChangeSpec.witness6 (enc := enc) (C := Try.checked) false ⟨#[], #[.slice none 0 0, .int .i64 0, .int .i64 0], []⟩ 8 (by kernel_rfl) (by kernel_rfl) (by kernel_rfl) (by kernel_rfl)) ?_
  intro W base args ds gs before hval hW _ _
  refine law_calls (tb := 4) Try.laidOut (by kernel_rfl) (by kernel_rfl) Try.underlying4 rfl ?_ ?_ W base args ds gs before hval hW
  · intro ds hd
    match ds, hd with
    | [_, _, _], _ => rfl
  · intro W base args ds p hval hA
    rw [show Try.f9.params.toList = [25, 3, 3] by kernel_rfl] at hA
    obtain ⟨v0, v1, v2, d0, d1, d2, p0, p1, p2, rfl, rfl, _, h0, h1, h2⟩ := trodAll_three hA
    obtain ⟨l, lk, r0⟩ := bills_reads.cell (by kernel_rfl) (hval 0 25 v0 rfl rfl) h0
    obtain ⟨a, ak, r1⟩ := int_reads.cell (by kernel_rfl) (hval 1 3 v1 rfl rfl) h1
    obtain ⟨b, bk, r2⟩ := int_reads.cell (by kernel_rfl) (hval 2 3 v2 rfl rfl) h2
    exact ⟨[.d (slL l), .d (.int .i64 a), .d (.int .i64 b)], rfl, rel3 r0 r1 r2, lTurns l a b lk⟩

theorem billTurns_holds : Rows.BillTurnsSaid :=
  OpenClaim.holds_of_wide 9 Try.f9 rfl rfl rfl rfl rfl rfl rfl ⟨rfl, rfl, rfl, rfl, rfl⟩ rfl rfl rfl rfl rfl (by kernel_rfl) Try.func9 (by kernel_rfl)
    (of_decide_eq_true (by kernel_rfl)) (by unfold Func.isWrapper; first | (rw [if_pos (by decide +kernel)]; kernel_rfl) | (rw [if_neg (by decide +kernel)]; exact ⟨rfl, rfl⟩))
    (fun os started H enc _ => billTurns_lifted os started H enc)

end Go.Proofs.Ythkfedghiklmeaa
