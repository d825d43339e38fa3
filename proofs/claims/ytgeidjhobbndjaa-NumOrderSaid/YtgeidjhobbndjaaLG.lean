/-
  NumOrder: whatever is handed in, the law returns true, and it reads behind the call as it read before. No condition.
-/
import Derived.Test.YtgeidjhobbndjaaPR
import Derived.Test.YtgeidjhobbndjaaD
namespace Go.Proofs.Ytgeidjhobbndjaa
open Go.ChangeShapes Go.WideShapes Go.ChangeAt Go.RowKit Go.Bx

theorem numOrder_lifted (os : Os) (started : os.Started) (H : Type) (enc : TypeId × Value → H) :
    ReturnsInHanded {} Try.checked os 9 .any (Rows.numOrderSpec.pre6 enc Try.prog Try.f9 Rows.numOrderRow.domain false) (Rows.numOrderSpec.post enc Try.prog Try.f9 false true false false) := by
  refine returnsInHanded_of_change (C := Try.checked) Try.own started (by kernel_rfl) Try.func9
    (ChangeSpec.witness6 (enc := enc) (C := Try.checked) false ⟨#[], #[.agg #[.int .i64 0, .int .i64 0, .int .i64 0], .agg #[.int .i64 0, .int .i64 0]], []⟩ 8 (by kernel_rfl) (by kernel_rfl) (by kernel_rfl) (by kernel_rfl)) ?_
  intro W base args ds gs before hval hW _ _
  refine law_calls (tb := 4) Try.laidOut (by kernel_rfl) (by kernel_rfl) Try.underlying4 rfl ?_ ?_ W base args ds gs before hval hW
  · intro ds hd
    match ds, hd with
    | [_, _], _ => rfl
  · intro W base args ds p hval hA
    rw [show Try.f9.params.toList = [37, 38] by kernel_rfl] at hA
    obtain ⟨v0, v1, d0, d1, p0, p1, rfl, rfl, _, h0, h1⟩ := trodAll_two hA
    obtain ⟨t, tk, r0⟩ := three_reads.agg (by kernel_rfl) (hval 0 37 v0 rfl rfl) h0
    obtain ⟨z, zk, r1⟩ := two_reads.agg (by kernel_rfl) (hval 1 38 v1 rfl rfl) h1
    exact ⟨[.ag [.d (.int .i64 t.1), .d (.int .i64 t.2.1), .d (.int .i64 t.2.2)], .ag [.d (.int .i64 z.1), .d (.int .i64 z.2)]], rfl, rel2 r0 r1, f9 t.1 t.2.1 t.2.2 z.1 z.2 tk.1 tk.2.1 tk.2.2 zk.1 zk.2⟩

theorem numOrder_holds : Rows.NumOrderSaid :=
  OpenClaim.holds_of_wide 9 Try.f9 rfl rfl rfl rfl rfl rfl rfl ⟨rfl, rfl, rfl, rfl, rfl⟩ rfl rfl rfl rfl rfl (by kernel_rfl) Try.func9 (by kernel_rfl)
    (of_decide_eq_true (by kernel_rfl)) (by unfold Func.isWrapper; first | (rw [if_pos (by decide +kernel)]; kernel_rfl) | (rw [if_neg (by decide +kernel)]; exact ⟨rfl, rfl⟩))
    (fun os started H enc _ => numOrder_lifted os started H enc)

end Go.Proofs.Ytgeidjhobbndjaa
