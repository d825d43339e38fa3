import Derived.Test.YtgeidjhobbndjaaB
namespace Go.Proofs.Ytgeidjhobbndjaa
open Go.Bx
set_option maxRecDepth 10000

theorem down_at {a b k : Int} {r : Int × Int} (e : downR a b k = r) (ha : a ≤ 9223372036854775807) (hb : b ≤ 9223372036854775807) (hc : k ≤ 9223372036854775807) :
    Ctr Try.prog 12 [.d (.int .i64 a), .d (.int .i64 b), .d (.int .i64 k)] [] (.tup [.d (.int .i64 r.1), .d (.int .i64 r.2)]) [] [] := e ▸ s12 a b k ha hb hc
theorem even_at {a b k : Int} {r : Int × Int} (e : ofR upE a b k = r) (ha : a ≤ 9223372036854775807) (hb : b ≤ 9223372036854775807) (hc : k ≤ 9223372036854775807) :
    Ctr Try.prog 15 [.d (.int .i64 a), .d (.int .i64 b), .d (.int .i64 k)] [] (.tup [.d (.int .i64 r.1), .d (.int .i64 r.2)]) [] [] := e ▸ sEven a b k ha hb hc
theorem bp_at {a b : Int} {r : Int × Int} (e : bpR a b = r) (ha : a ≤ 9223372036854775807) (hb : b ≤ 9223372036854775807) :
    Ctr Try.prog 17 [.d (.int .i64 a), .d (.int .i64 b)] [] (.tup [.d (.int .i64 r.1), .d (.int .i64 r.2)]) [] [] := e ▸ sBp a b ha hb
theorem s14 : Ctr Try.prog 14 [] [] (.d (.bool true)) [] [] := by
  have c1 := down_at (a := 7) (b := 5) (k := 2) (r := (17, 0)) (by decide +kernel) (by decide) (by decide) (by decide)
  have c2 := even_at (a := 7) (b := 5) (k := 2) (r := (18, 0)) (by decide +kernel) (by decide) (by decide) (by decide)
  have c3 := even_at (a := 5) (b := 5) (k := 2) (r := (12, 0)) (by decide +kernel) (by decide) (by decide) (by decide)
  have c4 := down_at (a := 1) (b := 1) (k := 0) (r := (0, 6)) (by decide +kernel) (by decide) (by decide) (by decide)
  have c5 := even_at (a := -1) (b := 1) (k := 1) (r := (0, 1)) (by decide +kernel) (by decide) (by decide) (by decide)
  have c6 := down_at (a := 4611686018427387904) (b := 4611686018427387904) (k := 1) (r := (0, 5)) (by decide +kernel) (by decide) (by decide) (by decide)
  have c7 := bp_at (a := 1234) (b := 2500) (r := (308, 0)) (by decide +kernel) (by decide) (by decide)
  have h8 : splitR 100 [1, 1, 1] = ([33, 33, 34], 0) := by decide +kernel
  have c8 : Ctr Try.prog 19 [.d (.int .i64 100), .d (.sl true 1 3 (litRow 1 [.int .i64 1, .int .i64 1, .int .i64 1]))] [] (.tup [.d (slK .i64 [33, 33, 34]), .d (.int .i64 0)]) [] [] := by
    have h := s19' (m := 100) (full := true) (n := 3) (ds := [.int .i64 1, .int .i64 1, .int .i64 1]) (l := [1, 1, 1]) (by repeat constructor) rfl (by decide) (by decide) (by decide)
    rw [h8] at h; exact h
  have h9 : splitR 5 [] = ([], 6) := by decide +kernel
  have c9 : Ctr Try.prog 19 [.d (.int .i64 5), .d (.sl true 0 0 fun _ => [])] [] (.tup [.d (slK .i64 []), .d (.int .i64 6)]) [] [] := by
    have h := s19n (m := 5) (by decide)
    rw [h9] at h; exact h
  have c10 : Ctr Try.prog 21 [.d (slK .i64 [33, 33, 34]), .d (.sl true 1 3 (litRow 1 [.int .i64 33, .int .i64 33, .int .i64 34]))] [] (.d (.bool true)) [] [] := by
    have h := s21' (a := [33, 33, 34]) (full := true) (n := 3) (ds := [.int .i64 33, .int .i64 33, .int .i64 34]) (b := [33, 33, 34]) (by repeat constructor) rfl (by decide)
    exact h
  refine pure14 (by simp) rfl rfl ?_
  intro c hP hfn
  simp only [c14, vcC_seq, vcC_reg, seqK_nrm, nrmK_app, initE, vcR_nil, vcR_n, isCall, makes, newOf, opR, evS, evV, evX, St.stp, Ef.stp, lgs, setE, applyU, newN, Bool.false_eq_true, ↓reduceIte, true_and, eq_self]
  repeat' first
      | (first
          | refine TR.p hP (by first | exact c1 | exact c2 | exact c3 | exact c4 | exact c5 | exact c6 | exact c7 | exact c8 | exact c9 | exact c10) (by repeat' first | exact trivial | (intro _; assumption) | apply And.intro) ?_
          | refine TR.gp hP rfl (fun _ => by first | exact c1 | exact c2 | exact c3 | exact c4 | exact c5 | exact c6 | exact c7 | exact c8 | exact c9 | exact c10) (fun _ => by repeat' first | exact trivial | (intro _; assumption) | apply And.intro) ?_
          | refine TR.pv hP rfl (by first | exact c1 | exact c2 | exact c3 | exact c4 | exact c5 | exact c6 | exact c7 | exact c8 | exact c9 | exact c10) trivial (by repeat' first | exact trivial | (intro _; assumption) | apply And.intro) ?_
         try simp only [Int.reduceNeg, vcC_seq, vcC_reg, vcC_ret, seqK_nrm, nrmK_app, vcR_nil, vcR_n, vcR_s, isCall, makes, hasU, slK, newOf, opR, binI, pickV, evS, evV, evX, evSs, evVs, catV, gOf, Go.Bx.get, cellsV, nth, toDs, St.stp, Ef.stp, lgs, setE, applyU, newN, Option.getD_some, Option.map_some, List.append_nil, List.nil_append, List.cons_append, List.length_cons, List.length_nil, List.not_mem_nil, Bool.and_self, Bool.false_eq_true, cond_true, ↓reduceIte, true_and, and_self, not_false_eq_true, forall_const, implies_true, eq_self, Nat.reduceAdd, Nat.reduceEqDiff, Nat.zero_add, Nat.succ_ne_self, Nat.reduceLT, beq_self_eq_true])
      | refine And.intro (fun h => ?_) (fun h => ?_)
      | refine And.intro (by first | omega | (simp only [maxLen, decide_eq_true_eq, decide_eq_false_iff_not] at *; omega)) ?_
      | refine And.intro rfl ?_
      | fail
  all_goals exact RetK.pure (by simp only [rs14, ressS, resS, and_self]) (by (simp only [rs14, retV, resV, Go.Bx.get, ↓reduceIte, eq_self, VLe_refl, Go.Bx.get, ↓reduceIte, eq_self]) <;> (first | simp))
end Go.Proofs.Ytgeidjhobbndjaa
