/-
  PostRight: whatever entry is handed in, the law returns true, and the entry reads behind the call as it read before. No condition.
-/
import Derived.Test.YtllakgjfgdgfiaaEngL
import Derived.Test.YtllakgjfgdgfiaaB
namespace Go.Proofs.Ytllakgjfgdgfiaa
open Go.ChangeShapes Go.WideShapes Go.ChangeAt Go.RowKit Go.Bx

theorem Try.own : ownKnob Try.prog.godebug = none := by kernel_rfl
theorem Try.laidOut : laidOutB Try.prog = true := by kernel_rfl

theorem int_reads : Reads Try.prog 3 1 (fun n : Int => [.int .i64 n]) (fun n => (Lit.int .i64 n).wf = true) := Reads.int Try.underlying3 (by kernel_rfl)
theorem line_reads : Reads Try.prog 50 2 (fun l : Int × Int => [.int .i64 l.1, .int .i64 l.2]) (fun _ => True) :=
  (Reads.struct Try.underlying50 (FR.cons rfl int_reads (FR.cons rfl int_reads FR.nil)) (by kernel_rfl)).map (fun x => (x.1, x.2.1)) _ _ (fun _ => rfl) (fun _ => rfl) (fun _ _ => trivial)
theorem lines_reads : Reads Try.prog 22 1 (fun ls : List (Int × Int) => [slL ls]) (fun ls => ls.length ≤ Go.maxLen) :=
  (line_reads.slice Try.underlying22 (by kernel_rfl) (by decide)).map id _ _ (fun _ => rfl) (fun _ => rfl) (fun _ h => h.1)
theorem entry_reads : Reads Try.prog 24 3 (fun e : Ent => [.int .i64 e.day, .int .i64 e.fo, slL e.ls]) (fun e => e.ls.length ≤ Go.maxLen) :=
  (Reads.struct Try.underlying24 (FR.cons rfl int_reads (FR.cons rfl int_reads (FR.cons rfl lines_reads FR.nil))) (by kernel_rfl)).map (fun x => ⟨x.1, x.2.1, x.2.2.1⟩) _ _ (fun _ => rfl) (fun _ => rfl) (fun _ h => h.2.2.1)

theorem entries_reads : Reads Try.prog 27 1 (fun b : List Ent => [slB b]) (fun b => b.length ≤ 9223372036854775807 ∧ ∀ e, e ∈ b → e.ls.length ≤ 9223372036854775807) :=
  (entry_reads.slice Try.underlying27 (by kernel_rfl) (by decide)).map id _ _ (fun _ => rfl) (fun _ => rfl) (fun _ h => h)
theorem book_reads : Reads Try.prog 29 1 (fun b : List Ent => [slB b]) (fun b => b.length ≤ 9223372036854775807 ∧ ∀ e, e ∈ b → e.ls.length ≤ 9223372036854775807) :=
  (Reads.struct Try.underlying29 (FR.cons rfl entries_reads FR.nil) (by kernel_rfl)).map (fun x => x.1) _ _ (fun _ => rfl) (fun _ => rfl) (fun _ h => h.1)
theorem span_reads : Reads Try.prog 32 2 (fun l : Int × Int => [.int .i64 l.1, .int .i64 l.2]) (fun _ => True) :=
  (Reads.struct Try.underlying32 (FR.cons rfl int_reads (FR.cons rfl int_reads FR.nil)) (by kernel_rfl)).map (fun x => (x.1, x.2.1)) _ _ (fun _ => rfl) (fun _ => rfl) (fun _ _ => trivial)
theorem pair_reads : Reads Try.prog 30 2 (fun l : Int × Int => [.int .i64 l.1, .int .i64 l.2]) (fun _ => True) :=
  (int_reads.array (n := 2) Try.underlying30 (by kernel_rfl)).map (fun x => (x 0, x 1)) _ _ (fun _ => rfl) (fun _ => rfl) (fun _ _ => trivial)

theorem postRight_lifted (os : Os) (started : os.Started) (H : Type) (enc : TypeId × Value → H) :
    ReturnsInHanded {} Try.checked os 3 .any (Rows.postRightSpec.pre6 enc Try.prog Try.f3 Rows.postRightRow.domain false) (Rows.postRightSpec.post enc Try.prog Try.f3 false true false false) := by
  refine returnsInHanded_of_change (C := Try.checked) Try.own started (by kernel_rfl) Try.func3
    (ChangeSpec.witness6 (enc := enc) (C := Try.checked) false ⟨#[], #[.agg #[.int .i64 0, .int .i64 0, .slice none 0 0]], []⟩ 8 (by kernel_rfl) (by kernel_rfl) (by kernel_rfl) (by kernel_rfl)) ?_
  intro W base args ds gs before hval hW _ _
  refine law_calls (tb := 4) Try.laidOut (by kernel_rfl) (by kernel_rfl) Try.underlying4 rfl ?_ ?_ W base args ds gs before hval hW
  · intro ds hd
    match ds, hd with
    | [d], _ => rfl
  · intro W base args ds p hval hA
    rw [show Try.f3.params.toList = [24] by kernel_rfl] at hA
    obtain ⟨v0, d0, rfl, rfl, h0⟩ := trodAll_one hA
    obtain ⟨e, _, hr⟩ := entry_reads.agg (by kernel_rfl) (hval 0 24 v0 rfl rfl) h0
    exact ⟨[vE e], rfl, rel1 hr, law_spec e⟩

theorem postRight_holds : Rows.PostRightSaid :=
  OpenClaim.holds_of_wide 3 Try.f3 rfl rfl rfl rfl rfl rfl rfl ⟨rfl, rfl, rfl, rfl, rfl⟩ rfl rfl rfl rfl rfl (by kernel_rfl) Try.func3 (by kernel_rfl)
    (of_decide_eq_true (by kernel_rfl)) (by unfold Func.isWrapper; first | (rw [if_pos (by decide +kernel)]; kernel_rfl) | (rw [if_neg (by decide +kernel)]; exact ⟨rfl, rfl⟩))
    (fun os started H enc _ => postRight_lifted os started H enc)

end Go.Proofs.Ytllakgjfgdgfiaa
