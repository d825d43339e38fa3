/-
  PostParts: whatever entries, span and days are handed in, the law returns true, and they read behind the call as they read before. No condition.
-/
import Derived.Test.YtllakgjfgdgfiaaPR
import Derived.Test.YtllakgjfgdgfiaaG
namespace Go.Proofs.Ytllakgjfgdgfiaa
open Go.ChangeShapes Go.WideShapes Go.ChangeAt Go.RowKit Go.Bx

theorem ints_reads : Reads Try.prog 45 1 (fun z : List Int => [slI z]) (fun z => z.length ≤ 9223372036854775807) :=
  (int_reads.slice Try.underlying45 (by kernel_rfl) (by decide)).map id _ _ (fun _ => rfl) (fun _ => rfl) (fun _ h => h.1)

theorem postParts_lifted (os : Os) (started : os.Started) (H : Type) (enc : TypeId × Value → H) :
    ReturnsInHanded {} Try.checked os 7 .any (Rows.postPartsSpec.pre6 enc Try.prog Try.f7 Rows.postPartsRow.domain false) (Rows.postPartsSpec.post enc Try.prog Try.f7 false true false false) := by
  refine returnsInHanded_of_change (C := Try.checked) Try.own started (by kernel_rfl) Try.func7
    (ChangeSpec.witness6 (enc := enc) (C := Try.checked) false ⟨#[], #[.slice none 0 0, .agg #[.int .i64 0, .int .i64 0], .slice none 0 0], []⟩ 8 (by kernel_rfl) (by kernel_rfl) (by kernel_rfl) (by kernel_rfl)) ?_
  intro W base args ds gs before hval hW _ _
  refine law_calls (tb := 4) Try.laidOut (by kernel_rfl) (by kernel_rfl) Try.underlying4 rfl ?_ ?_ W base args ds gs before hval hW
  · intro ds hd
    match ds, hd with
    | [_, _, _], _ => rfl
  · intro W base args ds p hval hA
    rw [show Try.f7.params.toList = [27, 32, 45] by kernel_rfl] at hA
    obtain ⟨v0, v1, v2, d0, d1, d2, p0, p1, p2, rfl, rfl, _, h0, h1, h2⟩ := trodAll_three hA
    obtain ⟨l, lk, r0⟩ := entries_reads.cell (by kernel_rfl) (hval 0 27 v0 rfl rfl) h0
    obtain ⟨p, pk, r1⟩ := span_reads.agg (by kernel_rfl) (hval 1 32 v1 rfl rfl) h1
    obtain ⟨z, zk, r2⟩ := ints_reads.cell (by kernel_rfl) (hval 2 45 v2 rfl rfl) h2
    exact ⟨[.d (slB l), vS p, .d (slI z)], rfl, rel3 r0 r1 r2, parts_spec l p z lk.1 lk.2 zk⟩

theorem postParts_holds : Rows.PostPartsSaid :=
  OpenClaim.holds_of_wide 7 Try.f7 rfl rfl rfl rfl rfl rfl rfl ⟨rfl, rfl, rfl, rfl, rfl⟩ rfl rfl rfl rfl rfl (by kernel_rfl) Try.func7 (by kernel_rfl)
    (of_decide_eq_true (by kernel_rfl)) (by unfold Func.isWrapper; first | (rw [if_pos (by decide +kernel)]; kernel_rfl) | (rw [if_neg (by decide +kernel)]; exact ⟨rfl, rfl⟩))
    (fun os started H enc _ => postParts_lifted os started H enc)

end Go.Proofs.Ytllakgjfgdgfiaa
