import Derived.Test.YtkcfgdafhfllgaaRB
import Derived.Test.YtkcfgdafhfllgaaG
namespace Go.Proofs.Ytkcfgdafhfllgaa
open Go.ChangeShapes Go.WideShapes Go.ChangeAt Go.RowKit Go.Bx

theorem band_reads : Reads Try.prog 58 2 (fun l : Int × Int => [.int .i64 l.1, .int .i64 l.2]) (fun _ => True) :=
  (Reads.struct Try.underlying58 (FR.cons rfl int_reads (FR.cons rfl int_reads FR.nil)) (by kernel_rfl)).map (fun x => (x.1, x.2.1)) _ _ (fun _ => rfl) (fun _ => rfl) (fun _ _ => trivial)
theorem bands_reads : Reads Try.prog 23 1 (fun l : List (Int × Int) => [slB l]) (fun l => l.length ≤ 9223372036854775807) :=
  (band_reads.slice Try.underlying23 (by kernel_rfl) (by decide)).map id _ _ (fun _ => rfl) (fun _ => rfl) (fun _ h => h.1)
theorem ints_reads : Reads Try.prog 24 1 (fun l : List Int => [slK .i64 l]) (fun l => l.length ≤ 9223372036854775807) :=
  (int_reads.slice Try.underlying24 (by kernel_rfl) (by decide)).map id _ _ (fun _ => rfl) (fun _ => rfl) (fun _ h => h.1)
theorem four_reads : Reads Try.prog 22 4 (fun t : Int × Int × Int × Int => [.int .i64 t.1, .int .i64 t.2.1, .int .i64 t.2.2.1, .int .i64 t.2.2.2]) (fun _ => True) :=
  (int_reads.array Try.underlying22 (by kernel_rfl)).map (fun g => (g 0, g 1, g 2, g 3)) _ _ (fun _ => rfl) (fun _ => rfl) (fun _ _ => trivial)
theorem three_reads : Reads Try.prog 40 3 (fun t : Int × Int × Int => [.int .i64 t.1, .int .i64 t.2.1, .int .i64 t.2.2]) (fun t => I64 t.1 ∧ I64 t.2.1 ∧ I64 t.2.2) :=
  (int_reads.array Try.underlying40 (by kernel_rfl)).map (fun g => (g 0, g 1, g 2)) _ _ (fun _ => rfl) (fun _ => rfl) (fun _ h => ⟨h 0 (by decide), h 1 (by decide), h 2 (by decide)⟩)
theorem version_reads : Reads Try.prog 26 9 (fun v : Vs => [.int .i64 v.fr, .int .i64 v.b0, .int .i64 v.b1, .int .i64 v.b2, .int .i64 v.b3, slB v.age, slK .i64 v.zn, slK .i64 v.pr, .int .i64 v.mn]) ShortV :=
  (Reads.struct Try.underlying26 (FR.cons rfl int_reads (FR.cons rfl four_reads (FR.cons rfl bands_reads (FR.cons rfl ints_reads (FR.cons rfl ints_reads (FR.cons rfl int_reads FR.nil)))))) (by kernel_rfl)).map (fun x => ⟨x.1, x.2.1.1, x.2.1.2.1, x.2.1.2.2.1, x.2.1.2.2.2, x.2.2.1, x.2.2.2.1, x.2.2.2.2.1, x.2.2.2.2.2.1⟩) _ _ (fun _ => rfl) (fun _ => rfl) (fun _ h => ⟨h.2.2.1, h.2.2.2.1, h.2.2.2.2.1⟩)
theorem risk_reads : Reads Try.prog 28 4 (fun r : Rk => [.int .i64 r.kd, .int .i64 r.va, .int .i64 r.ag, .int .i64 r.zo]) (fun r => I64 r.va) :=
  (Reads.struct Try.underlying28 (FR.cons rfl int_reads (FR.cons rfl int_reads (FR.cons rfl int_reads (FR.cons rfl int_reads FR.nil)))) (by kernel_rfl)).map (fun x => ⟨x.1, x.2.1, x.2.2.1, x.2.2.2.1⟩) _ _ (fun _ => rfl) (fun _ => rfl) (fun _ h => h.2.1)
theorem cover_reads : Reads Try.prog 30 5 (fun c : Cv => [.int .i64 c.pe, .int .i64 c.li, .int .i64 c.ag, .int .i64 c.de, .int .i64 c.sh]) okC :=
  (Reads.struct Try.underlying30 (FR.cons rfl int_reads (FR.cons rfl int_reads (FR.cons rfl int_reads (FR.cons rfl int_reads (FR.cons rfl int_reads FR.nil))))) (by kernel_rfl)).map (fun x => ⟨x.1, x.2.1, x.2.2.1, x.2.2.2.1, x.2.2.2.2.1⟩) _ _ (fun _ => rfl) (fun _ => rfl) (fun _ h => ⟨h.1, h.2.1, h.2.2.1, h.2.2.2.1, h.2.2.2.2.1⟩)
theorem covers_reads : Reads Try.prog 37 1 (fun l : List Cv => [slC l]) (fun l => l.length ≤ 9223372036854775807 ∧ ∀ c, c ∈ l → okC c) :=
  (cover_reads.slice Try.underlying37 (by kernel_rfl) (by decide)).map id _ _ (fun _ => rfl) (fun _ => rfl) (fun _ h => h)
end Go.Proofs.Ytkcfgdafhfllgaa
