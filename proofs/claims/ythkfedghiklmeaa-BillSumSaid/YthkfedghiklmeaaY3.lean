import Derived.Test.YthkfedghiklmeaaY2
namespace Go.Proofs.Ythkfedghiklmeaa
open Go.Bx
set_option maxRecDepth 10000

/-! The document's calendar. -/
theorem ah0 : ahN 1601 = 0 := by decide +kernel
theorem rYlen (y : Nat) : Ctr Try.prog 52 [.d (.int .i64 (y : Int))] [] (.d (.int .i64 (ylen y : Nat))) [] [] := by
  have ho := ylen_or y
  refine pure52 (by simp) rfl rfl ?_; intro c hP hfn; simp only [c52, vcC_seq, vcC_reg, seqK_nrm, nrmK_app, initE, vcR_nil, vcR_n, isCall, makes, newOf, opR, evS, evV, evX, Go.Bx.get, St.stp, Ef.stp, lgs, setE, applyU, newN, Bool.false_eq_true, reduceCtorEq, ↓reduceIte, true_and, eq_self]
  repeat' first
      | (first
          | refine TR.p hP (by first | exact rLeap y) (by repeat' first | exact trivial | (intro _; assumption) | apply And.intro) ?_
          | refine TR.gp hP rfl (fun _ => by first | exact rLeap y) (fun _ => by repeat' first | exact trivial | (intro _; assumption) | apply And.intro) ?_
          | refine TR.pv hP rfl (by first | exact rLeap y) trivial (by repeat' first | exact trivial | (intro _; assumption) | apply And.intro) ?_
         try simp only [vcC_seq, vcC_reg, vcC_skip, vcC_cond, vcC_ret, seqK_nrm, seqK_ret, nrmK_app, vcR_nil, vcR_n, isCall, makes, newOf, opR, evS, evV, evX, Go.Bx.get, St.stp, Ef.stp, lgs, setE, applyU, newN, Bool.false_eq_true, ↓reduceIte, true_and, eq_self])
      | refine And.intro (fun h => ?_) (fun h => ?_)
      | refine And.intro (by first | omega | (simp only [maxLen, decide_eq_true_eq, decide_eq_false_iff_not] at *; omega)) ?_
      | (refine TR.aslO rfl rfl rfl rfl trivial (Nat.le_of_ble_eq_true rfl) ?_
         try simp only [↓evSo_some, vcC_seq, vcC_reg, vcC_drw, vcC_skip, vcC_cond, vcC_block, vcC_exit, vcC_ret, vcC_bad, seqK_nrm, seqK_exit, seqK_ret, blkK_nrm, blkK_exit, blkK_ret, lopK_exit, lopK_ret, lopX_exit, lopX_ret, jmpK_nrm, jmpK_exit, jmpK_ret, nrmK_app, drwK_app, initE, vcR_nil, vcR_n, vcR_s, isCall, makes, hasU, slK, newOf, opR, binI, pickV, evS, evV, evX, evSs, evVs, evParts, evPartsS, fillV, catV, gOf, Go.Bx.get, Go.Bx.own?, cellsV, isCell, cut, cutD, nth, nthD, dropV, takeV, dropD, takeDV, putV, toDs, St.stp, Ef.stp, Stp.lg, lgs, setE, applyU, setO, delO, newN, keysO, callU, Ef.bad, Option.getD_some, Option.getD_none, Option.map_some, Option.map_none, List.all_cons, List.all_nil, List.map_cons, List.map_nil, List.append_nil, List.nil_append, List.cons_append, List.length_cons, List.length_nil, List.mem_cons, List.not_mem_nil, Bool.and_true, Bool.true_and, Bool.and_self, Bool.not_true, Bool.not_false, Bool.or_self, Bool.or_false, Bool.false_or, Bool.false_eq_true, Bool.true_eq_false, Bool.cond_true_left, Bool.cond_false_right, cond_true, cond_false, reduceCtorEq, ↓reduceIte, if_true, if_false, true_and, and_true, and_self, false_and, and_false, or_false, false_or, not_false_eq_true, not_true_eq_false, forall_const, true_implies, false_implies, implies_true, imp_self, eq_self, ne_eq, Nat.reduceAdd, Nat.reduceSub, Nat.reduceMul, Nat.reduceMod, Nat.reduceLeDiff, Nat.reduceEqDiff, Nat.zero_add, Nat.add_zero, Nat.le_refl, Nat.succ_ne_self, Nat.one_ne_zero, Nat.zero_ne_one, Int.toNat_natCast, litRow, List.drop_succ_cons, List.drop_zero, List.take_succ_cons, List.take_zero, pubE, pubV, pubL, pubO, pubFE, pubFV, pubFL, pubFO, delO, eqS, eqB, Nat.reduceLT, Nat.not_lt_zero, Nat.sub_zero, decide_true, decide_false, true_or, or_true, Int.le_refl, Int.cast_ofNat_Int, Int.reduceToNat, Int.reduceLT, Int.reduceLE, beq_self_eq_true, Nat.mul_one, Nat.one_mul, Nat.zero_mul])
      | refine And.intro trivial ?_
      | refine And.intro rfl ?_
      | fail
  · have hf : ylen y = 366 := by rcases ho with h' | h'; exact h'.2.1; exact absurd h h'.1
    exact RetK.pure (by simp only [rs52, ressS, resS, and_self]) (by (simp only [rs52, retV, resV, Go.Bx.get, ↓reduceIte, eq_self, VLe_int, Go.Bx.get, ↓reduceIte, eq_self]) <;> (first | (rw [hf]; rfl)))
  · have hf : ylen y = 365 := by rcases ho with h' | h'; exact absurd h (by rw [h'.1]; simp); exact h'.2.1
    exact RetK.pure (by simp only [rs52, ressS, resS, and_self]) (by (simp only [rs52, retV, resV, Go.Bx.get, ↓reduceIte, eq_self, VLe_int, Go.Bx.get, ↓reduceIte, eq_self]) <;> (first | (rw [hf]; rfl)))
theorem rMonth (y m : Nat) : Ctr Try.prog 42 [.d (.int .i64 (y : Int)), .d (.int .i64 (m : Int))] [] (.d (.int .i64 (mlen y m : Nat))) [] [] := by
  have ho := ylen_or y
  have hm : mlen y m = if m = 2 then feb y else if m = 4 ∨ m = 6 ∨ m = 9 ∨ m = 11 then 30 else 31 := rfl
  refine pure42 (by simp) rfl rfl ?_; intro c hP hfn; simp only [c42, vcC_seq, vcC_reg, vcC_skip, vcC_cond, vcC_block, vcC_ret, seqK_nrm, seqK_ret, blkK_nrm, blkK_ret, nrmK_app, initE, vcR_nil, vcR_n, isCall, makes, newOf, opR, binI, evS, evV, evX, Go.Bx.get, St.stp, Ef.stp, lgs, setE, applyU, newN, Bool.false_eq_true, reduceCtorEq, ↓reduceIte, true_and, and_self, eq_self, Nat.reduceEqDiff, Nat.zero_add, Nat.succ_ne_self, Nat.zero_ne_one]
  repeat' first
      | (first
          | refine TR.p hP (by first | exact rLeap y) (by repeat' first | exact trivial | (intro _; assumption) | apply And.intro) ?_
          | refine TR.gp hP rfl (fun _ => by first | exact rLeap y) (fun _ => by repeat' first | exact trivial | (intro _; assumption) | apply And.intro) ?_
          | refine TR.pv hP rfl (by first | exact rLeap y) trivial (by repeat' first | exact trivial | (intro _; assumption) | apply And.intro) ?_
         try simp only [vcC_seq, vcC_reg, vcC_skip, vcC_cond, vcC_ret, seqK_nrm, seqK_ret, blkK_ret, nrmK_app, vcR_nil, vcR_n, isCall, makes, newOf, opR, evS, evV, evX, Go.Bx.get, St.stp, Ef.stp, lgs, setE, applyU, newN, Bool.false_eq_true, ↓reduceIte, true_and, eq_self])
      | refine And.intro (fun h => ?_) (fun h => ?_)
      | refine And.intro (by first | omega | (simp only [maxLen, decide_eq_true_eq, decide_eq_false_iff_not] at *; omega)) ?_
      | (refine TR.aslO rfl rfl rfl rfl trivial (Nat.le_of_ble_eq_true rfl) ?_
         try simp only [↓evSo_some, vcC_seq, vcC_reg, vcC_drw, vcC_skip, vcC_cond, vcC_block, vcC_exit, vcC_ret, vcC_bad, seqK_nrm, seqK_exit, seqK_ret, blkK_nrm, blkK_exit, blkK_ret, lopK_exit, lopK_ret, lopX_exit, lopX_ret, jmpK_nrm, jmpK_exit, jmpK_ret, nrmK_app, drwK_app, initE, vcR_nil, vcR_n, vcR_s, isCall, makes, hasU, slK, newOf, opR, binI, pickV, evS, evV, evX, evSs, evVs, evParts, evPartsS, fillV, catV, gOf, Go.Bx.get, Go.Bx.own?, cellsV, isCell, cut, cutD, nth, nthD, dropV, takeV, dropD, takeDV, putV, toDs, St.stp, Ef.stp, Stp.lg, lgs, setE, applyU, setO, delO, newN, keysO, callU, Ef.bad, Option.getD_some, Option.getD_none, Option.map_some, Option.map_none, List.all_cons, List.all_nil, List.map_cons, List.map_nil, List.append_nil, List.nil_append, List.cons_append, List.length_cons, List.length_nil, List.mem_cons, List.not_mem_nil, Bool.and_true, Bool.true_and, Bool.and_self, Bool.not_true, Bool.not_false, Bool.or_self, Bool.or_false, Bool.false_or, Bool.false_eq_true, Bool.true_eq_false, Bool.cond_true_left, Bool.cond_false_right, cond_true, cond_false, reduceCtorEq, ↓reduceIte, if_true, if_false, true_and, and_true, and_self, false_and, and_false, or_false, false_or, not_false_eq_true, not_true_eq_false, forall_const, true_implies, false_implies, implies_true, imp_self, eq_self, ne_eq, Nat.reduceAdd, Nat.reduceSub, Nat.reduceMul, Nat.reduceMod, Nat.reduceLeDiff, Nat.reduceEqDiff, Nat.zero_add, Nat.add_zero, Nat.le_refl, Nat.succ_ne_self, Nat.one_ne_zero, Nat.zero_ne_one, Int.toNat_natCast, litRow, List.drop_succ_cons, List.drop_zero, List.take_succ_cons, List.take_zero, pubE, pubV, pubL, pubO, pubFE, pubFV, pubFL, pubFO, delO, eqS, eqB, Nat.reduceLT, Nat.not_lt_zero, Nat.sub_zero, decide_true, decide_false, true_or, or_true, Int.le_refl, Int.cast_ofNat_Int, Int.reduceToNat, Int.reduceLT, Int.reduceLE, beq_self_eq_true, Nat.mul_one, Nat.one_mul, Nat.zero_mul])
      | refine And.intro trivial ?_
      | refine And.intro rfl ?_
      | fail
  all_goals simp only [beq_iff_eq, beq_eq_false_iff_ne, ne_eq] at *
  all_goals first
    | (exfalso; omega)
    | (have hf : mlen y m = 30 := by rw [hm, if_neg (by omega), if_pos (by omega)]
       exact RetK.pure (by simp only [rs42, ressS, resS, and_self]) (by (simp only [rs42, retV, resV, Go.Bx.get, ↓reduceIte, eq_self, VLe_int, Go.Bx.get, ↓reduceIte, eq_self]) <;> (first | (rw [hf]; rfl))))
    | (have hf : mlen y m = 29 := by rw [hm, if_pos (by omega)]; rcases ho with h' | h' <;> simp_all
       exact RetK.pure (by simp only [rs42, ressS, resS, and_self]) (by (simp only [rs42, retV, resV, Go.Bx.get, ↓reduceIte, eq_self, VLe_int, Go.Bx.get, ↓reduceIte, eq_self]) <;> (first | (rw [hf]; rfl))))
    | (have hf : mlen y m = 28 := by rw [hm, if_pos (by omega)]; rcases ho with h' | h' <;> simp_all
       exact RetK.pure (by simp only [rs42, ressS, resS, and_self]) (by (simp only [rs42, retV, resV, Go.Bx.get, ↓reduceIte, eq_self, VLe_int, Go.Bx.get, ↓reduceIte, eq_self]) <;> (first | (rw [hf]; rfl))))
    | (have hf : mlen y m = 31 := by rw [hm, if_neg (by omega), if_neg (by omega)]
       exact RetK.pure (by simp only [rs42, ressS, resS, and_self]) (by (simp only [rs42, retV, resV, Go.Bx.get, ↓reduceIte, eq_self, VLe_int, Go.Bx.get, ↓reduceIte, eq_self]) <;> (first | (rw [hf]; rfl))))
set_option maxHeartbeats 1000000 in
theorem rOfD (n : Int) : Ctr Try.prog 41 [.d (.int .i64 n)] [] (.tup [.ag (ymd (ofD n)), .d (.int .i64 (ofE n))]) [] [] := by
  refine pure41 (by simp) rfl rfl ?_; intro c hP hfn; simp only [c41, vcC_seq, vcC_reg, vcC_skip, vcC_cond, vcC_block, vcC_ret, seqK_nrm, seqK_ret, nrmK_app, initE, vcR_nil, vcR_n, vcR_s, isCall, makes, hasU, newOf, opR, binI, pickV, evS, evV, evX, evParts, evPartsS, fillV, gOf, Go.Bx.get, Go.Bx.own?, cellsV, isCell, putV, St.stp, Ef.stp, lgs, setE, applyU, setO, newN, Option.getD_some, List.all_cons, List.all_nil, List.length_cons, List.length_nil, List.mem_cons, List.not_mem_nil, Bool.true_and, Bool.and_self, Bool.false_eq_true, Bool.cond_true_left, reduceCtorEq, ↓reduceIte, true_and, and_true, and_self, or_false, not_false_eq_true, forall_const, implies_true, imp_self, eq_self, Nat.reduceAdd, Nat.reduceEqDiff, Nat.zero_add, Nat.le_refl, Nat.succ_ne_self]
  refine ⟨fun h => ?_, fun h => ?_⟩
  · have hi : ¬ isD n = true := by rw [isD_iff]; simp only [Bool.or_eq_true, decide_eq_true_eq] at h; omega
    (refine RetK.pure (by simp only [rs41, ressS, resS, Go.Bx.get, Go.Bx.own?, List.length_cons, List.length_nil, ↓reduceIte, and_self, eq_self, Nat.reduceAdd, Nat.reduceEqDiff, Nat.zero_add, Nat.le_refl, Nat.succ_ne_self]) (VLe.tups ?_); simp only [ressV, resV, Go.Bx.get, Go.Bx.own?, cut, dropV, takeV, ↓reduceIte, eq_self, Nat.reduceEqDiff, Nat.succ_ne_self])
    rw [ofD, if_neg hi, ofE, if_neg hi]; exact ⟨VLe.refl _, VLe.refl _, trivial⟩
  have h12 : 1 ≤ n ∧ n ≤ 292194 := by simp only [Bool.or_eq_false_iff, decide_eq_false_iff_not] at h; omega
  have hi : isD n = true := isD_iff.2 h12
  have e2 : ofD n = ofN n.toNat := by rw [ofD, if_pos hi]
  have e3 : ofE n = 0 := by rw [ofE, if_pos hi]
  clear h hi
  obtain ⟨m, rfl⟩ : ∃ m : Nat, n = (m : Int) := ⟨n.toNat, by omega⟩
  rw [Int.toNat_natCast] at e2
  obtain ⟨a, b, p, q⟩ := yN_spec (n := m) (by omega) (by omega)
  have hof : ofN m = (yN m, mgo (yN m) 12 1 (m - ahN (yN m))) := rfl
  have huq := fun y => yN_unique (n := m) (y := y) (by omega) (by omega)
  rw [e2, e3, hof]
  refine vcC.loop (X := Nat) (fun y => ⟨[(0, .d (.int .i64 (m - ahN y : Nat))), (2, .own 2 0), (4, .d (.int .i64 (y : Int)))], [(2, .fix [.d (.int .i64 0), .d (.int .i64 0), .d (.int .i64 0)])], [2]⟩)
    (fun y => 1601 ≤ y ∧ y ≤ yN m ∧ ahN y < m) (fun y => 3000 - y) 1601 ⟨by omega, a, by rw [ah0]; omega⟩ (Wk.of [] hfn rfl (by simp only [ah0, EnvLe, VLe_refl, Go.Bx.get, reduceCtorEq, ↓reduceIte, and_self, eq_self, Nat.reduceEqDiff, Nat.succ_ne_self, Nat.sub_zero, Int.cast_ofNat_Int]) (by simp only [OwnLe, OLe_refl, exists_eq_left', Option.some.injEq, Go.Bx.own?, ↓reduceIte, and_self, eq_self])) ?_
  rintro y ⟨hy1, hy2, hy3⟩
  simp only [vcC_seq, vcC_reg, vcR_n, isCall, makes, newOf, opR, evS, evV, evX, Go.Bx.get, St.stp, Ef.stp, lgs, setE, applyU, newN, Bool.false_eq_true, reduceCtorEq, ↓reduceIte, true_and, eq_self, Nat.reduceEqDiff]
  have hs := ah_succ hy1
  have hyl := ylen_or y
  repeat' first
      | (first
          | refine TR.p hP (by first | exact rYlen y) (by repeat' first | exact trivial | (intro _; assumption) | apply And.intro) ?_
          | refine TR.gp hP rfl (fun _ => by first | exact rYlen y) (fun _ => by repeat' first | exact trivial | (intro _; assumption) | apply And.intro) ?_
          | refine TR.pv hP rfl (by first | exact rYlen y) trivial (by repeat' first | exact trivial | (intro _; assumption) | apply And.intro) ?_
         try simp only [vcC_seq, vcC_reg, vcC_skip, vcC_cond, vcC_block, vcC_exit, seqK_nrm, seqK_exit, blkK_nrm, blkK_exit, lopK_exit, nrmK_app, vcR_nil, vcR_n, isCall, makes, newOf, opR, binI, evS, evV, evX, Go.Bx.get, St.stp, Ef.stp, lgs, setE, applyU, newN, Bool.false_eq_true, reduceCtorEq, ↓reduceIte, true_and, and_self, eq_self, Nat.reduceEqDiff, Nat.succ_ne_self])
      | refine And.intro (fun h => ?_) (fun h => ?_)
      | refine And.intro (by first | omega | (simp only [maxLen, decide_eq_true_eq, decide_eq_false_iff_not] at *; omega)) ?_
      | (refine TR.aslO rfl rfl rfl rfl trivial (Nat.le_of_ble_eq_true rfl) ?_
         try simp only [↓evSo_some, vcC_seq, vcC_reg, vcC_drw, vcC_skip, vcC_cond, vcC_block, vcC_exit, vcC_ret, vcC_bad, seqK_nrm, seqK_exit, seqK_ret, blkK_nrm, blkK_exit, blkK_ret, lopK_exit, lopK_ret, lopX_exit, lopX_ret, jmpK_nrm, jmpK_exit, jmpK_ret, nrmK_app, drwK_app, initE, vcR_nil, vcR_n, vcR_s, isCall, makes, hasU, slK, newOf, opR, binI, pickV, evS, evV, evX, evSs, evVs, evParts, evPartsS, fillV, catV, gOf, Go.Bx.get, Go.Bx.own?, cellsV, isCell, cut, cutD, nth, nthD, dropV, takeV, dropD, takeDV, putV, toDs, St.stp, Ef.stp, Stp.lg, lgs, setE, applyU, setO, delO, newN, keysO, callU, Ef.bad, Option.getD_some, Option.getD_none, Option.map_some, Option.map_none, List.all_cons, List.all_nil, List.map_cons, List.map_nil, List.append_nil, List.nil_append, List.cons_append, List.length_cons, List.length_nil, List.mem_cons, List.not_mem_nil, Bool.and_true, Bool.true_and, Bool.and_self, Bool.not_true, Bool.not_false, Bool.or_self, Bool.or_false, Bool.false_or, Bool.false_eq_true, Bool.true_eq_false, Bool.cond_true_left, Bool.cond_false_right, cond_true, cond_false, reduceCtorEq, ↓reduceIte, if_true, if_false, true_and, and_true, and_self, false_and, and_false, or_false, false_or, not_false_eq_true, not_true_eq_false, forall_const, true_implies, false_implies, implies_true, imp_self, eq_self, ne_eq, Nat.reduceAdd, Nat.reduceSub, Nat.reduceMul, Nat.reduceMod, Nat.reduceLeDiff, Nat.reduceEqDiff, Nat.zero_add, Nat.add_zero, Nat.le_refl, Nat.succ_ne_self, Nat.one_ne_zero, Nat.zero_ne_one, Int.toNat_natCast, litRow, List.drop_succ_cons, List.drop_zero, List.take_succ_cons, List.take_zero, pubE, pubV, pubL, pubO, pubFE, pubFV, pubFL, pubFO, delO, eqS, eqB, Nat.reduceLT, Nat.not_lt_zero, Nat.sub_zero, decide_true, decide_false, true_or, or_true, Int.le_refl, Int.cast_ofNat_Int, Int.reduceToNat, Int.reduceLT, Int.reduceLE, beq_self_eq_true, Nat.mul_one, Nat.one_mul, Nat.zero_mul])
      | refine And.intro trivial ?_
      | refine And.intro rfl ?_
      | fail
  · have h' : ylen y < m - ahN y := by have := of_decide_eq_true h; omega
    have hne : y ≠ yN m := fun e => by rw [← e] at q; omega
    have e4 : IntKind.i64.wrap (((m - ahN y : Nat) : Int) - (ylen y : Nat)) = ((m - ahN (y + 1) : Nat) : Int) := (wI (by omega)).trans (by omega)
    simp only [e4]
    exact lopK.on (y + 1) ⟨by omega, by omega, by omega⟩ (by omega) (Wk.of [] hfn rfl (by (simp only [EnvLe, VLe_refl, VLe_int, Go.Bx.get, reduceCtorEq, ↓reduceIte, true_and, and_true, eq_self, Nat.reduceEqDiff]) <;> exact wS (by omega)) (by simp only [OwnLe, OLe_refl, exists_eq_left', Option.some.injEq, Go.Bx.own?, ↓reduceIte, and_self, eq_self]))
  · have h' : ¬ ylen y < m - ahN y := by have := of_decide_eq_false h; omega
    have hyy : y = yN m := huq y hy1 hy3 (by omega)
    rw [← hyy]
    clear huq hof q p b a
    have hr1 : 1 ≤ m - ahN y := by omega
    have hr3 : m - ahN y ≤ msum y 12 := by rw [msum12]; omega
    have hr2 : m - ahN y ≤ 366 := by omega
    generalize m - ahN y = r at *
    clear h
    refine vcC.loop (X := Nat × Nat) (fun x => ⟨[(0, .d (.int .i64 (x.2 : Nat))), (2, .own 2 0), (4, .d (.int .i64 (y : Int))), (5, .d (.int .i64 (x.1 + 1 : Nat)))], [(2, .fix [.d (.int .i64 0), .d (.int .i64 0), .d (.int .i64 0)])], [2]⟩)
      (fun x => x.1 ≤ 12 ∧ 1 ≤ x.2 ∧ x.2 ≤ 366 ∧ x.2 + msum y x.1 ≤ msum y 12 ∧ mgo y 12 1 r = mgo y (12 - x.1) (x.1 + 1) x.2) (fun x => 12 - x.1) (0, r) ⟨by omega, hr1, hr2, by simpa [msum] using hr3, rfl⟩ (Wk.of [] hfn rfl (by simp only [EnvLe, VLe_refl, Go.Bx.get, reduceCtorEq, ↓reduceIte, and_self, eq_self, Nat.reduceEqDiff, Nat.zero_add, Nat.succ_ne_self, Int.cast_ofNat_Int]) (by simp only [OwnLe, OLe_refl, exists_eq_left', Option.some.injEq, Go.Bx.own?, ↓reduceIte, and_self, eq_self])) ?_
    rintro ⟨k, d⟩ ⟨hk, hd1, hd2, hd3, hg⟩
    simp only at hk hd1 hd2 hd3 hg
    have hlt : k < 12 := by
      rcases Nat.lt_or_ge k 12 with h | h
      · exact h
      · have : k = 12 := by omega
        subst this; omega
    have hml := mlen_le y (k + 1)
    have hms : msum y (k + 1) = msum y k + mlen y (k + 1) := rfl
    have hmg : mgo y (12 - k) (k + 1) d = if d ≤ mlen y (k + 1) then (k + 1, d) else mgo y (12 - (k + 1)) (k + 1 + 1) (d - mlen y (k + 1)) := by
      rw [show 12 - k = (12 - (k + 1)) + 1 by omega, mgo]
    rw [hmg] at hg
    simp only [vcC_seq, vcC_reg, vcR_n, isCall, makes, newOf, opR, evS, evV, evX, Go.Bx.get, St.stp, Ef.stp, lgs, setE, applyU, newN, Bool.false_eq_true, reduceCtorEq, ↓reduceIte, true_and, eq_self, Nat.reduceEqDiff]
    repeat' first
        | (first
            | refine TR.p hP (by first | exact rMonth y (k + 1)) (by repeat' first | exact trivial | (intro _; assumption) | apply And.intro) ?_
            | refine TR.gp hP rfl (fun _ => by first | exact rMonth y (k + 1)) (fun _ => by repeat' first | exact trivial | (intro _; assumption) | apply And.intro) ?_
            | refine TR.pv hP rfl (by first | exact rMonth y (k + 1)) trivial (by repeat' first | exact trivial | (intro _; assumption) | apply And.intro) ?_
           try simp only [vcC_seq, vcC_reg, vcC_skip, vcC_cond, vcC_block, vcC_exit, vcC_ret, seqK_nrm, seqK_exit, blkK_nrm, blkK_exit, lopK_exit, nrmK_app, vcR_nil, vcR_n, isCall, makes, newOf, opR, binI, evS, evV, evX, evParts, evPartsS, fillV, Go.Bx.get, Go.Bx.own?, cellsV, isCell, putV, St.stp, Ef.stp, lgs, setE, applyU, setO, newN, List.all_cons, List.all_nil, List.length_cons, List.length_nil, List.mem_cons, List.not_mem_nil, Bool.and_self, Bool.false_eq_true, reduceCtorEq, ↓reduceIte, true_and, and_self, or_false, eq_self, Nat.reduceAdd, Nat.reduceLeDiff, Nat.reduceEqDiff, Nat.zero_add, Nat.le_refl, Nat.succ_ne_self, decide_true])
        | refine And.intro (fun h => ?_) (fun h => ?_)
        | refine And.intro (by first | omega | (simp only [maxLen, decide_eq_true_eq, decide_eq_false_iff_not] at *; omega)) ?_
        | (refine TR.aslO rfl rfl rfl rfl trivial (Nat.le_of_ble_eq_true rfl) ?_
           try simp only [↓evSo_some, vcC_seq, vcC_reg, vcC_drw, vcC_skip, vcC_cond, vcC_block, vcC_exit, vcC_ret, vcC_bad, seqK_nrm, seqK_exit, seqK_ret, blkK_nrm, blkK_exit, blkK_ret, lopK_exit, lopK_ret, lopX_exit, lopX_ret, jmpK_nrm, jmpK_exit, jmpK_ret, nrmK_app, drwK_app, initE, vcR_nil, vcR_n, vcR_s, isCall, makes, hasU, slK, newOf, opR, binI, pickV, evS, evV, evX, evSs, evVs, evParts, evPartsS, fillV, catV, gOf, Go.Bx.get, Go.Bx.own?, cellsV, isCell, cut, cutD, nth, nthD, dropV, takeV, dropD, takeDV, putV, toDs, St.stp, Ef.stp, Stp.lg, lgs, setE, applyU, setO, delO, newN, keysO, callU, Ef.bad, Option.getD_some, Option.getD_none, Option.map_some, Option.map_none, List.all_cons, List.all_nil, List.map_cons, List.map_nil, List.append_nil, List.nil_append, List.cons_append, List.length_cons, List.length_nil, List.mem_cons, List.not_mem_nil, Bool.and_true, Bool.true_and, Bool.and_self, Bool.not_true, Bool.not_false, Bool.or_self, Bool.or_false, Bool.false_or, Bool.false_eq_true, Bool.true_eq_false, Bool.cond_true_left, Bool.cond_false_right, cond_true, cond_false, reduceCtorEq, ↓reduceIte, if_true, if_false, true_and, and_true, and_self, false_and, and_false, or_false, false_or, not_false_eq_true, not_true_eq_false, forall_const, true_implies, false_implies, implies_true, imp_self, eq_self, ne_eq, Nat.reduceAdd, Nat.reduceSub, Nat.reduceMul, Nat.reduceMod, Nat.reduceLeDiff, Nat.reduceEqDiff, Nat.zero_add, Nat.add_zero, Nat.le_refl, Nat.succ_ne_self, Nat.one_ne_zero, Nat.zero_ne_one, Int.toNat_natCast, litRow, List.drop_succ_cons, List.drop_zero, List.take_succ_cons, List.take_zero, pubE, pubV, pubL, pubO, pubFE, pubFV, pubFL, pubFO, delO, eqS, eqB, Nat.reduceLT, Nat.not_lt_zero, Nat.sub_zero, decide_true, decide_false, true_or, or_true, Int.le_refl, Int.cast_ofNat_Int, Int.reduceToNat, Int.reduceLT, Int.reduceLE, beq_self_eq_true, Nat.mul_one, Nat.one_mul, Nat.zero_mul])
        | refine And.intro trivial ?_
        | refine And.intro rfl ?_
        | fail
    · have h' : ¬ d ≤ mlen y (k + 1) := by have := of_decide_eq_true h; omega
      rw [if_neg h'] at hg
      have e5 : IntKind.i64.wrap ((d : Int) - (mlen y (k + 1) : Nat)) = ((d - mlen y (k + 1) : Nat) : Int) := (wI (by omega)).trans (by omega)
      have e6 : IntKind.i64.wrap (((k + 1 : Nat) : Int) + 1) = ((k + 1 + 1 : Nat) : Int) := (wI (by omega)).trans (by omega)
      simp only [e5, e6]
      exact lopK.on (k + 1, d - mlen y (k + 1)) ⟨hlt, by simp only; omega, by simp only; omega, by simp only; omega, hg⟩ (by simp only; omega) (Wk.of [] hfn rfl (by simp only [EnvLe, VLe_refl, Go.Bx.get, reduceCtorEq, ↓reduceIte, and_self, eq_self, Nat.reduceEqDiff, Nat.succ_ne_self]) (by simp only [OwnLe, OLe_refl, exists_eq_left', Option.some.injEq, Go.Bx.own?, ↓reduceIte, and_self, eq_self]))
    · have h' : d ≤ mlen y (k + 1) := by have := of_decide_eq_false h; omega
      rw [if_pos h'] at hg
      (refine RetK.pure (by simp only [rs41, ressS, resS, Go.Bx.get, Go.Bx.own?, List.length_cons, List.length_nil, reduceCtorEq, ↓reduceIte, and_self, eq_self, Nat.reduceAdd, Nat.reduceEqDiff, Nat.zero_add, Nat.le_refl, Nat.succ_ne_self]) (VLe.tups ?_); simp only [ressV, resV, Go.Bx.get, Go.Bx.own?, cut, dropV, takeV, reduceCtorEq, ↓reduceIte, eq_self, Nat.reduceEqDiff, Nat.succ_ne_self])
      rw [hg]; exact ⟨VLe.refl _, VLe.refl _, trivial⟩
def numE (y m d : Nat) : Int × Int := if 2400 < y then (0, 3) else ((numN y m d : Nat), 0)
set_option maxHeartbeats 1000000 in
theorem rNumD (y m d : Nat) (y1 : 1601 ≤ y) (y2 : y ≤ 20000) (m1 : 1 ≤ m) (m2 : m ≤ 12) (d1 : 1 ≤ d) (d2 : d ≤ mlen y m) : Ctr Try.prog 43 [.ag [.d (.int .i64 (y : Int)), .d (.int .i64 (m : Int)), .d (.int .i64 (d : Int))]] [] (.tup [.d (.int .i64 (numE y m d).1), .d (.int .i64 (numE y m d).2)]) [] [] := by
  have hml := mlen_le y m
  have hnum : numN y m d = ahN y + msum y (m - 1) + d := rfl
  refine pure43 (by simp) rfl rfl ?_; intro c hP hfn; simp only [c43, vcC_seq, vcC_reg, vcC_drw, vcC_skip, vcC_cond, vcC_ret, seqK_nrm, seqK_ret, nrmK_app, initE, vcR_nil, vcR_n, vcR_s, isCall, makes, hasU, newOf, opR, binI, pickV, evS, evV, evX, gOf, Go.Bx.get, Go.Bx.own?, cellsV, isCell, cut, nth, St.stp, Ef.stp, Stp.lg, lgs, setE, applyU, setO, newN, Option.getD_some, List.all_cons, List.all_nil, List.map_nil, List.append_nil, List.nil_append, List.cons_append, List.length_cons, List.length_nil, List.mem_cons, List.not_mem_nil, Bool.true_and, Bool.and_self, Bool.false_eq_true, Bool.cond_true_left, ↓reduceIte, true_and, and_true, and_self, or_false, not_false_eq_true, forall_const, implies_true, imp_self, eq_self, Nat.reduceAdd, Nat.reduceLeDiff, Nat.reduceEqDiff, Nat.zero_add, Nat.add_zero, Nat.le_refl, Nat.succ_ne_self]
  repeat' first
      | (first
          | refine TR.p hP (by first | exact rMonth y m) (by repeat' first | exact trivial | (intro _; assumption) | apply And.intro) ?_
          | refine TR.gp hP rfl (fun _ => by first | exact rMonth y m) (fun _ => by repeat' first | exact trivial | (intro _; assumption) | apply And.intro) ?_
          | refine TR.pv hP rfl (by first | exact rMonth y m) trivial (by repeat' first | exact trivial | (intro _; assumption) | apply And.intro) ?_
         try simp only [vcC_seq, vcC_reg, vcC_skip, vcC_cond, vcC_block, vcC_ret, seqK_nrm, seqK_ret, nrmK_app, drwK_app, vcR_nil, vcR_n, isCall, makes, newOf, opR, binI, evS, evV, evX, Go.Bx.get, Go.Bx.own?, cut, nth, St.stp, Ef.stp, Stp.lg, lgs, setE, applyU, newN, List.map_nil, List.append_nil, List.nil_append, List.cons_append, List.length_cons, List.length_nil, Bool.false_eq_true, ↓reduceIte, true_and, and_self, eq_self, Nat.reduceAdd, Nat.reduceEqDiff, Nat.zero_add, Nat.le_refl, Nat.succ_ne_self])
      | refine And.intro (fun h => ?_) (fun h => ?_)
      | refine And.intro (by first | omega | (simp only [maxLen, decide_eq_true_eq, decide_eq_false_iff_not] at *; omega)) ?_
      | (refine TR.aslO rfl rfl rfl rfl trivial (Nat.le_of_ble_eq_true rfl) ?_
         try simp only [↓evSo_some, vcC_seq, vcC_reg, vcC_drw, vcC_skip, vcC_cond, vcC_block, vcC_exit, vcC_ret, vcC_bad, seqK_nrm, seqK_exit, seqK_ret, blkK_nrm, blkK_exit, blkK_ret, lopK_exit, lopK_ret, lopX_exit, lopX_ret, jmpK_nrm, jmpK_exit, jmpK_ret, nrmK_app, drwK_app, initE, vcR_nil, vcR_n, vcR_s, isCall, makes, hasU, slK, newOf, opR, binI, pickV, evS, evV, evX, evSs, evVs, evParts, evPartsS, fillV, catV, gOf, Go.Bx.get, Go.Bx.own?, cellsV, isCell, cut, cutD, nth, nthD, dropV, takeV, dropD, takeDV, putV, toDs, St.stp, Ef.stp, Stp.lg, lgs, setE, applyU, setO, delO, newN, keysO, callU, Ef.bad, Option.getD_some, Option.getD_none, Option.map_some, Option.map_none, List.all_cons, List.all_nil, List.map_cons, List.map_nil, List.append_nil, List.nil_append, List.cons_append, List.length_cons, List.length_nil, List.mem_cons, List.not_mem_nil, Bool.and_true, Bool.true_and, Bool.and_self, Bool.not_true, Bool.not_false, Bool.or_self, Bool.or_false, Bool.false_or, Bool.false_eq_true, Bool.true_eq_false, Bool.cond_true_left, Bool.cond_false_right, cond_true, cond_false, reduceCtorEq, ↓reduceIte, if_true, if_false, true_and, and_true, and_self, false_and, and_false, or_false, false_or, not_false_eq_true, not_true_eq_false, forall_const, true_implies, false_implies, implies_true, imp_self, eq_self, ne_eq, Nat.reduceAdd, Nat.reduceSub, Nat.reduceMul, Nat.reduceMod, Nat.reduceLeDiff, Nat.reduceEqDiff, Nat.zero_add, Nat.add_zero, Nat.le_refl, Nat.succ_ne_self, Nat.one_ne_zero, Nat.zero_ne_one, Int.toNat_natCast, litRow, List.drop_succ_cons, List.drop_zero, List.take_succ_cons, List.take_zero, pubE, pubV, pubL, pubO, pubFE, pubFV, pubFL, pubFO, delO, eqS, eqB, Nat.reduceLT, Nat.not_lt_zero, Nat.sub_zero, decide_true, decide_false, true_or, or_true, Int.le_refl, Int.cast_ofNat_Int, Int.reduceToNat, Int.reduceLT, Int.reduceLE, beq_self_eq_true, Nat.mul_one, Nat.one_mul, Nat.zero_mul])
      | refine And.intro trivial ?_
      | refine And.intro rfl ?_
      | fail
  · have h' : 2400 < y := by simp only [Bool.or_eq_true, decide_eq_true_eq] at h; omega
    (refine RetK.pure (by simp only [rs43, ressS, resS, and_self]) (VLe.tups ?_); simp only [ressV, resV, Go.Bx.get, ↓reduceIte, eq_self, Nat.succ_ne_self])
    rw [numE, if_pos h']; exact ⟨VLe.refl _, VLe.refl _, trivial⟩
  · exfalso; have := of_decide_eq_true h; omega
  have h' : y ≤ 2400 := by
    rename_i g
    simp only [Bool.or_eq_false_iff, decide_eq_false_iff_not] at g; omega
  have he : numE y m d = (((numN y m d : Nat) : Int), 0) := by rw [numE, if_neg (by omega)]
  have hb := numN_bounds y1 h' m1 m2 d1 d2
  have hah : ahN y + d + msum y (m - 1) ≤ 292194 := by omega
  rename_i g
  clear h g
  refine vcC.loop (X := Nat) (fun k => ⟨[(1, .own 1 0), (4, .d (.int .i64 (d + ahN k : Nat))), (5, .d (.int .i64 (k : Int)))], [(1, .fix [.d (.int .i64 (y : Int)), .d (.int .i64 (m : Int)), .d (.int .i64 (d : Int))])], [1]⟩)
    (fun k => 1601 ≤ k ∧ k ≤ y) (fun k => y - k) 1601 ⟨by omega, by omega⟩ (Wk.of [] hfn rfl (by simp only [ah0, EnvLe, VLe_refl, Go.Bx.get, ↓reduceIte, and_self, eq_self, Nat.reduceEqDiff, Nat.add_zero, Nat.succ_ne_self, Int.cast_ofNat_Int]) (by simp only [OwnLe, OLe_refl, exists_eq_left', Option.some.injEq, Go.Bx.own?, ↓reduceIte, and_self, eq_self])) ?_
  rintro k ⟨hk1, hk2⟩
  simp only [vcC_seq, vcC_reg, vcC_skip, vcC_cond, vcC_block, vcC_exit, seqK_nrm, seqK_exit, blkK_exit, lopK_exit, nrmK_app, vcR_nil, vcR_n, isCall, makes, newOf, opR, binI, evS, evV, evX, Go.Bx.get, Go.Bx.own?, cut, nth, St.stp, Ef.stp, lgs, setE, applyU, newN, List.length_cons, List.length_nil, Bool.false_eq_true, ↓reduceIte, true_and, and_self, eq_self, Nat.reduceAdd, Nat.reduceLeDiff, Nat.reduceEqDiff, Nat.zero_add, Nat.add_zero, Nat.succ_ne_self]
  refine ⟨fun h1 => ?_, fun h1 => ?_⟩
  · have hlt : k < y := by have := of_decide_eq_true h1; omega
    have hs := ah_succ hk1
    have hm := ah_mono (a := k + 1) (b := y) (by omega) hlt
    have e3 : IntKind.i64.wrap (((d + ahN k : Nat) : Int) + (ylen k : Nat)) = ((d + ahN (k + 1) : Nat) : Int) := (wI (by omega)).trans (by omega)
    repeat' first
        | (first
            | refine TR.p hP (by first | exact rYlen k) (by repeat' first | exact trivial | (intro _; assumption) | apply And.intro) ?_
            | refine TR.gp hP rfl (fun _ => by first | exact rYlen k) (fun _ => by repeat' first | exact trivial | (intro _; assumption) | apply And.intro) ?_
            | refine TR.pv hP rfl (by first | exact rYlen k) trivial (by repeat' first | exact trivial | (intro _; assumption) | apply And.intro) ?_
           try simp only [e3, vcC_reg, seqK_nrm, blkK_nrm, nrmK_app, vcR_nil, vcR_n, isCall, makes, newOf, opR, binI, evS, evV, evX, Go.Bx.get, St.stp, Ef.stp, lgs, setE, applyU, newN, Bool.false_eq_true, ↓reduceIte, true_and, and_self, eq_self, Nat.reduceEqDiff, Nat.succ_ne_self])
        | refine And.intro (fun h => ?_) (fun h => ?_)
        | refine And.intro (by first | omega | (simp only [maxLen, decide_eq_true_eq, decide_eq_false_iff_not] at *; omega)) ?_
        | (refine TR.aslO rfl rfl rfl rfl trivial (Nat.le_of_ble_eq_true rfl) ?_
           try simp only [e3, ↓evSo_some, vcC_seq, vcC_reg, vcC_drw, vcC_skip, vcC_cond, vcC_block, vcC_exit, vcC_ret, vcC_bad, seqK_nrm, seqK_exit, seqK_ret, blkK_nrm, blkK_exit, blkK_ret, lopK_exit, lopK_ret, lopX_exit, lopX_ret, jmpK_nrm, jmpK_exit, jmpK_ret, nrmK_app, drwK_app, initE, vcR_nil, vcR_n, vcR_s, isCall, makes, hasU, slK, newOf, opR, binI, pickV, evS, evV, evX, evSs, evVs, evParts, evPartsS, fillV, catV, gOf, Go.Bx.get, Go.Bx.own?, cellsV, isCell, cut, cutD, nth, nthD, dropV, takeV, dropD, takeDV, putV, toDs, St.stp, Ef.stp, Stp.lg, lgs, setE, applyU, setO, delO, newN, keysO, callU, Ef.bad, Option.getD_some, Option.getD_none, Option.map_some, Option.map_none, List.all_cons, List.all_nil, List.map_cons, List.map_nil, List.append_nil, List.nil_append, List.cons_append, List.length_cons, List.length_nil, List.mem_cons, List.not_mem_nil, Bool.and_true, Bool.true_and, Bool.and_self, Bool.not_true, Bool.not_false, Bool.or_self, Bool.or_false, Bool.false_or, Bool.false_eq_true, Bool.true_eq_false, Bool.cond_true_left, Bool.cond_false_right, cond_true, cond_false, reduceCtorEq, ↓reduceIte, if_true, if_false, true_and, and_true, and_self, false_and, and_false, or_false, false_or, not_false_eq_true, not_true_eq_false, forall_const, true_implies, false_implies, implies_true, imp_self, eq_self, ne_eq, Nat.reduceAdd, Nat.reduceSub, Nat.reduceMul, Nat.reduceMod, Nat.reduceLeDiff, Nat.reduceEqDiff, Nat.zero_add, Nat.add_zero, Nat.le_refl, Nat.succ_ne_self, Nat.one_ne_zero, Nat.zero_ne_one, Int.toNat_natCast, litRow, List.drop_succ_cons, List.drop_zero, List.take_succ_cons, List.take_zero, pubE, pubV, pubL, pubO, pubFE, pubFV, pubFL, pubFO, delO, eqS, eqB, Nat.reduceLT, Nat.not_lt_zero, Nat.sub_zero, decide_true, decide_false, true_or, or_true, Int.le_refl, Int.cast_ofNat_Int, Int.reduceToNat, Int.reduceLT, Int.reduceLE, beq_self_eq_true, Nat.mul_one, Nat.one_mul, Nat.zero_mul])
        | refine And.intro trivial ?_
        | refine And.intro rfl ?_
        | fail
    exact lopK.on (k + 1) ⟨by omega, by omega⟩ (by omega) (Wk.of [] hfn rfl (by (simp only [EnvLe, VLe_refl, VLe_int, Go.Bx.get, ↓reduceIte, true_and, and_true, eq_self, Nat.reduceEqDiff, Nat.succ_ne_self]) <;> (first | exact wS (by omega) | (rw [List.length_append]; exact wS (by omega)) | assumption)) (by simp only [OwnLe, OLe_refl, exists_eq_left', Option.some.injEq, Go.Bx.own?, ↓reduceIte, and_self, eq_self]))
  · have hkl : k = y := by have := of_decide_eq_false h1; omega
    subst hkl
    clear h1
    refine vcC.loop (X := Nat) (fun j => ⟨[(1, .own 1 0), (4, .d (.int .i64 (ahN k + d + msum k j : Nat))), (6, .d (.int .i64 (j + 1 : Nat)))], [(1, .fix [.d (.int .i64 (k : Int)), .d (.int .i64 (m : Int)), .d (.int .i64 (d : Int))])], [1]⟩)
      (fun j => j ≤ m - 1) (fun j => m - 1 - j) 0 (by omega) (Wk.of [] hfn rfl (by simp only [msum, EnvLe, VLe_refl, VLe_int, Go.Bx.get, ↓reduceIte, true_and, and_true, and_self, eq_self, Nat.reduceEqDiff, Nat.zero_add, Nat.add_zero, Int.cast_ofNat_Int]; omega) (by simp only [OwnLe, OLe_refl, exists_eq_left', Option.some.injEq, Go.Bx.own?, ↓reduceIte, and_self, eq_self])) ?_
    intro j hj
    simp only [vcC_seq, vcC_reg, vcC_skip, vcC_cond, vcC_block, vcC_exit, vcC_ret, seqK_nrm, seqK_exit, blkK_exit, lopK_exit, nrmK_app, vcR_nil, vcR_n, isCall, makes, newOf, opR, binI, evS, evV, evX, Go.Bx.get, Go.Bx.own?, cut, nth, St.stp, Ef.stp, lgs, setE, applyU, newN, List.length_cons, List.length_nil, Bool.false_eq_true, ↓reduceIte, true_and, and_self, eq_self, Nat.reduceAdd, Nat.reduceLeDiff, Nat.reduceEqDiff, Nat.zero_add, Nat.add_zero, Nat.succ_ne_self]
    refine ⟨fun h1 => ?_, fun h1 => ?_⟩
    · have hlt : j < m - 1 := by have := of_decide_eq_true h1; omega
      have hms : msum k (j + 1) = msum k j + mlen k (j + 1) := rfl
      have hmx := msum_le k (show j + 1 ≤ m - 1 by omega)
      have e3 : IntKind.i64.wrap (((ahN k + d + msum k j : Nat) : Int) + (mlen k (j + 1) : Nat)) = ((ahN k + d + msum k (j + 1) : Nat) : Int) := (wI (by omega)).trans (by omega)
      have e6 : IntKind.i64.wrap (((j + 1 : Nat) : Int) + 1) = ((j + 1 + 1 : Nat) : Int) := (wI (by omega)).trans (by omega)
      repeat' first
          | (first
              | refine TR.p hP (by first | exact rMonth k (j + 1)) (by repeat' first | exact trivial | (intro _; assumption) | apply And.intro) ?_
              | refine TR.gp hP rfl (fun _ => by first | exact rMonth k (j + 1)) (fun _ => by repeat' first | exact trivial | (intro _; assumption) | apply And.intro) ?_
              | refine TR.pv hP rfl (by first | exact rMonth k (j + 1)) trivial (by repeat' first | exact trivial | (intro _; assumption) | apply And.intro) ?_
             try simp only [e3, e6, vcC_reg, seqK_nrm, blkK_nrm, nrmK_app, vcR_nil, vcR_n, isCall, makes, newOf, opR, binI, evS, evV, evX, Go.Bx.get, St.stp, Ef.stp, lgs, setE, applyU, newN, Bool.false_eq_true, ↓reduceIte, true_and, and_self, eq_self, Nat.reduceEqDiff, Nat.succ_ne_self])
          | refine And.intro (fun h => ?_) (fun h => ?_)
          | refine And.intro (by first | omega | (simp only [maxLen, decide_eq_true_eq, decide_eq_false_iff_not] at *; omega)) ?_
          | (refine TR.aslO rfl rfl rfl rfl trivial (Nat.le_of_ble_eq_true rfl) ?_
             try simp only [e3, e6, ↓evSo_some, vcC_seq, vcC_reg, vcC_drw, vcC_skip, vcC_cond, vcC_block, vcC_exit, vcC_ret, vcC_bad, seqK_nrm, seqK_exit, seqK_ret, blkK_nrm, blkK_exit, blkK_ret, lopK_exit, lopK_ret, lopX_exit, lopX_ret, jmpK_nrm, jmpK_exit, jmpK_ret, nrmK_app, drwK_app, initE, vcR_nil, vcR_n, vcR_s, isCall, makes, hasU, slK, newOf, opR, binI, pickV, evS, evV, evX, evSs, evVs, evParts, evPartsS, fillV, catV, gOf, Go.Bx.get, Go.Bx.own?, cellsV, isCell, cut, cutD, nth, nthD, dropV, takeV, dropD, takeDV, putV, toDs, St.stp, Ef.stp, Stp.lg, lgs, setE, applyU, setO, delO, newN, keysO, callU, Ef.bad, Option.getD_some, Option.getD_none, Option.map_some, Option.map_none, List.all_cons, List.all_nil, List.map_cons, List.map_nil, List.append_nil, List.nil_append, List.cons_append, List.length_cons, List.length_nil, List.mem_cons, List.not_mem_nil, Bool.and_true, Bool.true_and, Bool.and_self, Bool.not_true, Bool.not_false, Bool.or_self, Bool.or_false, Bool.false_or, Bool.false_eq_true, Bool.true_eq_false, Bool.cond_true_left, Bool.cond_false_right, cond_true, cond_false, reduceCtorEq, ↓reduceIte, if_true, if_false, true_and, and_true, and_self, false_and, and_false, or_false, false_or, not_false_eq_true, not_true_eq_false, forall_const, true_implies, false_implies, implies_true, imp_self, eq_self, ne_eq, Nat.reduceAdd, Nat.reduceSub, Nat.reduceMul, Nat.reduceMod, Nat.reduceLeDiff, Nat.reduceEqDiff, Nat.zero_add, Nat.add_zero, Nat.le_refl, Nat.succ_ne_self, Nat.one_ne_zero, Nat.zero_ne_one, Int.toNat_natCast, litRow, List.drop_succ_cons, List.drop_zero, List.take_succ_cons, List.take_zero, pubE, pubV, pubL, pubO, pubFE, pubFV, pubFL, pubFO, delO, eqS, eqB, Nat.reduceLT, Nat.not_lt_zero, Nat.sub_zero, decide_true, decide_false, true_or, or_true, Int.le_refl, Int.cast_ofNat_Int, Int.reduceToNat, Int.reduceLT, Int.reduceLE, beq_self_eq_true, Nat.mul_one, Nat.one_mul, Nat.zero_mul])
          | refine And.intro trivial ?_
          | refine And.intro rfl ?_
          | fail
      exact lopK.on (j + 1) (by omega) (by omega) (Wk.of [] hfn rfl (by simp only [EnvLe, VLe_refl, Go.Bx.get, ↓reduceIte, and_self, eq_self, Nat.reduceEqDiff]) (by simp only [OwnLe, OLe_refl, exists_eq_left', Option.some.injEq, Go.Bx.own?, ↓reduceIte, and_self, eq_self]))
    · have hjl : j = m - 1 := by have := of_decide_eq_false h1; omega
      subst hjl
      repeat' first
          | (first
              | refine TR.p hP (by first | fail) (by repeat' first | exact trivial | (intro _; assumption) | apply And.intro) ?_
              | refine TR.gp hP rfl (fun _ => by first | fail) (fun _ => by repeat' first | exact trivial | (intro _; assumption) | apply And.intro) ?_
              | refine TR.pv hP rfl (by first | fail) trivial (by repeat' first | exact trivial | (intro _; assumption) | apply And.intro) ?_
             try simp only [↓evSo_some, vcC_seq, vcC_reg, vcC_drw, vcC_skip, vcC_cond, vcC_block, vcC_exit, vcC_ret, vcC_bad, seqK_nrm, seqK_exit, seqK_ret, blkK_nrm, blkK_exit, blkK_ret, lopK_exit, lopK_ret, lopX_exit, lopX_ret, jmpK_nrm, jmpK_exit, jmpK_ret, nrmK_app, drwK_app, initE, vcR_nil, vcR_n, vcR_s, isCall, makes, hasU, slK, newOf, opR, binI, pickV, evS, evV, evX, evSs, evVs, evParts, evPartsS, fillV, catV, gOf, Go.Bx.get, Go.Bx.own?, cellsV, isCell, cut, cutD, nth, nthD, dropV, takeV, dropD, takeDV, putV, toDs, St.stp, Ef.stp, Stp.lg, lgs, setE, applyU, setO, delO, newN, keysO, callU, Ef.bad, Option.getD_some, Option.getD_none, Option.map_some, Option.map_none, List.all_cons, List.all_nil, List.map_cons, List.map_nil, List.append_nil, List.nil_append, List.cons_append, List.length_cons, List.length_nil, List.mem_cons, List.not_mem_nil, Bool.and_true, Bool.true_and, Bool.and_self, Bool.not_true, Bool.not_false, Bool.or_self, Bool.or_false, Bool.false_or, Bool.false_eq_true, Bool.true_eq_false, Bool.cond_true_left, Bool.cond_false_right, cond_true, cond_false, reduceCtorEq, ↓reduceIte, if_true, if_false, true_and, and_true, and_self, false_and, and_false, or_false, false_or, not_false_eq_true, not_true_eq_false, forall_const, true_implies, false_implies, implies_true, imp_self, eq_self, ne_eq, Nat.reduceAdd, Nat.reduceSub, Nat.reduceMul, Nat.reduceMod, Nat.reduceLeDiff, Nat.reduceEqDiff, Nat.zero_add, Nat.add_zero, Nat.le_refl, Nat.succ_ne_self, Nat.one_ne_zero, Nat.zero_ne_one, Int.toNat_natCast, litRow, List.drop_succ_cons, List.drop_zero, List.take_succ_cons, List.take_zero, pubE, pubV, pubL, pubO, pubFE, pubFV, pubFL, pubFO, delO, eqS, eqB, Nat.reduceLT, Nat.not_lt_zero, Nat.sub_zero, decide_true, decide_false, true_or, or_true, Int.le_refl, Int.cast_ofNat_Int, Int.reduceToNat, Int.reduceLT, Int.reduceLE, beq_self_eq_true, Nat.mul_one, Nat.one_mul, Nat.zero_mul])
          | refine And.intro (fun h => ?_) (fun h => ?_)
          | refine And.intro (by first | omega | (simp only [maxLen, decide_eq_true_eq, decide_eq_false_iff_not] at *; omega)) ?_
          | (refine TR.aslO rfl rfl rfl rfl trivial (Nat.le_of_ble_eq_true rfl) ?_
             try simp only [↓evSo_some, vcC_seq, vcC_reg, vcC_drw, vcC_skip, vcC_cond, vcC_block, vcC_exit, vcC_ret, vcC_bad, seqK_nrm, seqK_exit, seqK_ret, blkK_nrm, blkK_exit, blkK_ret, lopK_exit, lopK_ret, lopX_exit, lopX_ret, jmpK_nrm, jmpK_exit, jmpK_ret, nrmK_app, drwK_app, initE, vcR_nil, vcR_n, vcR_s, isCall, makes, hasU, slK, newOf, opR, binI, pickV, evS, evV, evX, evSs, evVs, evParts, evPartsS, fillV, catV, gOf, Go.Bx.get, Go.Bx.own?, cellsV, isCell, cut, cutD, nth, nthD, dropV, takeV, dropD, takeDV, putV, toDs, St.stp, Ef.stp, Stp.lg, lgs, setE, applyU, setO, delO, newN, keysO, callU, Ef.bad, Option.getD_some, Option.getD_none, Option.map_some, Option.map_none, List.all_cons, List.all_nil, List.map_cons, List.map_nil, List.append_nil, List.nil_append, List.cons_append, List.length_cons, List.length_nil, List.mem_cons, List.not_mem_nil, Bool.and_true, Bool.true_and, Bool.and_self, Bool.not_true, Bool.not_false, Bool.or_self, Bool.or_false, Bool.false_or, Bool.false_eq_true, Bool.true_eq_false, Bool.cond_true_left, Bool.cond_false_right, cond_true, cond_false, reduceCtorEq, ↓reduceIte, if_true, if_false, true_and, and_true, and_self, false_and, and_false, or_false, false_or, not_false_eq_true, not_true_eq_false, forall_const, true_implies, false_implies, implies_true, imp_self, eq_self, ne_eq, Nat.reduceAdd, Nat.reduceSub, Nat.reduceMul, Nat.reduceMod, Nat.reduceLeDiff, Nat.reduceEqDiff, Nat.zero_add, Nat.add_zero, Nat.le_refl, Nat.succ_ne_self, Nat.one_ne_zero, Nat.zero_ne_one, Int.toNat_natCast, litRow, List.drop_succ_cons, List.drop_zero, List.take_succ_cons, List.take_zero, pubE, pubV, pubL, pubO, pubFE, pubFV, pubFL, pubFO, delO, eqS, eqB, Nat.reduceLT, Nat.not_lt_zero, Nat.sub_zero, decide_true, decide_false, true_or, or_true, Int.le_refl, Int.cast_ofNat_Int, Int.reduceToNat, Int.reduceLT, Int.reduceLE, beq_self_eq_true, Nat.mul_one, Nat.one_mul, Nat.zero_mul])
          | refine And.intro trivial ?_
          | refine And.intro rfl ?_
          | fail
      (refine RetK.pure (by simp only [rs43, ressS, resS, and_self]) (VLe.tups ?_); simp only [ressV, resV, Go.Bx.get, ↓reduceIte, eq_self, Nat.succ_ne_self])
      rw [he, hnum, show ahN k + msum k (m - 1) + d = ahN k + d + msum k (m - 1) by omega]; exact ⟨VLe.refl _, VLe.refl _, trivial⟩
/-- So many months on. -/
def stepT (t : Nat) : Nat × Nat := (1601 + t / 12, t % 12 + 1)
set_option maxHeartbeats 2000000 in
theorem rShift (n : Int) (b : Nat) (hb : b ≤ 9600) : Ctr Try.prog 29 [.d (.int .i64 n), .d (.int .i64 (b : Int))] [] (.tup [.d (.int .i64 (shiftN n b).1), .d (.int .i64 (shiftN n b).2)]) [] [] := by
  have co := rOfD n
  by_cases hi : isD n = true
  · have h12 := isD_iff.1 hi
    rw [ofD, if_pos hi, ofE, if_pos hi] at co
    obtain ⟨m, rfl⟩ : ∃ m : Nat, n = (m : Int) := ⟨n.toNat, by omega⟩
    rw [Int.toNat_natCast] at co
    have hs := ofN_spec (n := m) (by omega) (by omega)
    have hsh : shiftN (m : Int) b = if 9600 ≤ shiftT m b then (0, 3) else (((shiftV m b : Nat) : Int), 0) := by rw [shiftN, if_neg (by omega), Int.toNat_natCast]
    have ht : shiftT m b = ((ofN m).1 - 1601) * 12 + ((ofN m).2.1 - 1) + b := rfl
    have hv : shiftV m b = numN (1601 + shiftT m b / 12) (shiftT m b % 12 + 1) (min (ofN m).2.2 (mlen (1601 + shiftT m b / 12) (shiftT m b % 12 + 1))) := rfl
    generalize shiftT m b = t at *
    generalize shiftV m b = v at *
    obtain ⟨⟨y, mo, d⟩, hof⟩ : ∃ p, ofN m = p := ⟨_, rfl⟩
    rw [hof] at co hs ht hv
    simp only at hs ht hv
    simp only [ymd] at co
    obtain ⟨y1, y2, m1, m2, d1, d2, -⟩ := hs
    have hml := mlen_le y mo
    refine pure29 (by simp) rfl rfl ?_; intro c hP hfn; simp only [c29, vcC_seq, vcC_reg, seqK_nrm, nrmK_app, initE, vcR_nil, vcR_n, isCall, makes, newOf, opR, evS, evV, evX, Go.Bx.get, St.stp, Ef.stp, lgs, setE, applyU, newN, Bool.false_eq_true, reduceCtorEq, ↓reduceIte, true_and, eq_self, Nat.zero_add]
    repeat' first
        | (first
            | refine TR.p hP (by first | exact co) (by repeat' first | exact trivial | (intro _; assumption) | apply And.intro) ?_
            | refine TR.gp hP rfl (fun _ => by first | exact co) (fun _ => by repeat' first | exact trivial | (intro _; assumption) | apply And.intro) ?_
            | refine TR.pv hP rfl (by first | exact co) trivial (by repeat' first | exact trivial | (intro _; assumption) | apply And.intro) ?_
           try simp only [vcC_seq, vcC_reg, vcC_skip, vcC_cond, vcC_block, vcC_ret, seqK_nrm, seqK_ret, nrmK_app, vcR_nil, vcR_n, vcR_s, isCall, makes, hasU, newOf, opR, binI, pickV, evS, evV, evX, gOf, Go.Bx.get, Go.Bx.own?, cellsV, isCell, nth, putV, St.stp, Ef.stp, lgs, setE, applyU, setO, newN, Option.getD_some, List.all_cons, List.all_nil, List.length_cons, List.length_nil, List.mem_cons, List.not_mem_nil, Bool.true_and, Bool.and_self, Bool.false_eq_true, Bool.cond_true_left, ↓reduceIte, true_and, and_true, and_self, or_false, not_false_eq_true, forall_const, implies_true, imp_self, eq_self, Nat.reduceAdd, Nat.reduceEqDiff, Nat.zero_add, Nat.le_refl, Nat.succ_ne_self, Nat.zero_ne_one, Nat.reduceLT])
        | refine And.intro (fun h => ?_) (fun h => ?_)
        | refine And.intro (by first | omega | (simp only [maxLen, decide_eq_true_eq, decide_eq_false_iff_not] at *; omega)) ?_
        | (refine TR.aslO rfl rfl rfl rfl trivial (Nat.le_of_ble_eq_true rfl) ?_
           try simp only [↓evSo_some, vcC_seq, vcC_reg, vcC_drw, vcC_skip, vcC_cond, vcC_block, vcC_exit, vcC_ret, vcC_bad, seqK_nrm, seqK_exit, seqK_ret, blkK_nrm, blkK_exit, blkK_ret, lopK_exit, lopK_ret, lopX_exit, lopX_ret, jmpK_nrm, jmpK_exit, jmpK_ret, nrmK_app, drwK_app, initE, vcR_nil, vcR_n, vcR_s, isCall, makes, hasU, slK, newOf, opR, binI, pickV, evS, evV, evX, evSs, evVs, evParts, evPartsS, fillV, catV, gOf, Go.Bx.get, Go.Bx.own?, cellsV, isCell, cut, cutD, nth, nthD, dropV, takeV, dropD, takeDV, putV, toDs, St.stp, Ef.stp, Stp.lg, lgs, setE, applyU, setO, delO, newN, keysO, callU, Ef.bad, Option.getD_some, Option.getD_none, Option.map_some, Option.map_none, List.all_cons, List.all_nil, List.map_cons, List.map_nil, List.append_nil, List.nil_append, List.cons_append, List.length_cons, List.length_nil, List.mem_cons, List.not_mem_nil, Bool.and_true, Bool.true_and, Bool.and_self, Bool.not_true, Bool.not_false, Bool.or_self, Bool.or_false, Bool.false_or, Bool.false_eq_true, Bool.true_eq_false, Bool.cond_true_left, Bool.cond_false_right, cond_true, cond_false, reduceCtorEq, ↓reduceIte, if_true, if_false, true_and, and_true, and_self, false_and, and_false, or_false, false_or, not_false_eq_true, not_true_eq_false, forall_const, true_implies, false_implies, implies_true, imp_self, eq_self, ne_eq, Nat.reduceAdd, Nat.reduceSub, Nat.reduceMul, Nat.reduceMod, Nat.reduceLeDiff, Nat.reduceEqDiff, Nat.zero_add, Nat.add_zero, Nat.le_refl, Nat.succ_ne_self, Nat.one_ne_zero, Nat.zero_ne_one, Int.toNat_natCast, litRow, List.drop_succ_cons, List.drop_zero, List.take_succ_cons, List.take_zero, pubE, pubV, pubL, pubO, pubFE, pubFV, pubFL, pubFO, delO, eqS, eqB, Nat.reduceLT, Nat.not_lt_zero, Nat.sub_zero, decide_true, decide_false, true_or, or_true, Int.le_refl, Int.cast_ofNat_Int, Int.reduceToNat, Int.reduceLT, Int.reduceLE, beq_self_eq_true, Nat.mul_one, Nat.one_mul, Nat.zero_mul])
        | refine And.intro trivial ?_
        | refine And.intro rfl ?_
        | fail
    · exfalso; simp only [bne_self_eq_false, Bool.false_or, Bool.or_eq_true, decide_eq_true_eq] at h; omega
    clear h
    refine vcC.loop (X := Nat) (fun i => ⟨[(1, .d (.int .i64 (b : Int))), (6, .own 6 0), (8, .d (.int .i64 (i : Int)))], [(6, .fix [.d (.int .i64 (1601 + (t - b + i) / 12 : Nat)), .d (.int .i64 ((t - b + i) % 12 + 1 : Nat)), .d (.int .i64 (d : Int))])], [6]⟩)
      (fun i => i ≤ b) (fun i => b - i) 0 (by omega) (Wk.of [] hfn rfl (by simp only [EnvLe, VLe_refl, Go.Bx.get, ↓reduceIte, and_self, eq_self, Nat.reduceEqDiff, Nat.succ_ne_self, Nat.zero_ne_one, Int.cast_ofNat_Int]) (by
        have g1 : 1601 + (t - b) / 12 = y := by omega
        have g2 : (t - b) % 12 + 1 = mo := by omega
        simp only [g1, g2, OwnLe, OLe_refl, exists_eq_left', Option.some.injEq, Go.Bx.own?, ↓reduceIte, and_self, eq_self, Nat.add_zero])) ?_
    intro i hi2
    simp only [vcC_seq, vcC_reg, vcC_skip, vcC_cond, vcC_block, vcC_exit, seqK_nrm, seqK_exit, blkK_nrm, blkK_exit, lopK_exit, nrmK_app, vcR_nil, vcR_n, isCall, makes, newOf, opR, binI, evS, evV, evX, Go.Bx.get, Go.Bx.own?, cellsV, cut, nth, putV, St.stp, Ef.stp, lgs, setE, applyU, setO, newN, List.length_cons, List.length_nil, List.mem_cons, List.not_mem_nil, Bool.false_eq_true, ↓reduceIte, true_and, and_self, or_false, eq_self, Nat.reduceAdd, Nat.reduceLeDiff, Nat.reduceEqDiff, Nat.zero_add, Nat.add_zero, Nat.succ_ne_self]
    have e6 : IntKind.i64.wrap ((((t - b + i) % 12 + 1 : Nat) : Int) + 1) = (((t - b + i) % 12 + 1 + 1 : Nat) : Int) := (wI (by omega)).trans (by omega)
    refine ⟨fun h1 => ?_, fun h1 => ?_⟩
    · have hlt : i < b := by have := of_decide_eq_true h1; omega
      have e7 : IntKind.i64.wrap (((1601 + (t - b + i) / 12 : Nat) : Int) + 1) = ((1601 + (t - b + i) / 12 + 1 : Nat) : Int) := (wI (by omega)).trans (by omega)
      simp only [e6, e7]
      repeat' first
          | (first
              | refine TR.p hP (by first | fail) (by repeat' first | exact trivial | (intro _; assumption) | apply And.intro) ?_
              | refine TR.gp hP rfl (fun _ => by first | fail) (fun _ => by repeat' first | exact trivial | (intro _; assumption) | apply And.intro) ?_
              | refine TR.pv hP rfl (by first | fail) trivial (by repeat' first | exact trivial | (intro _; assumption) | apply And.intro) ?_
             try simp only [e6, e7, ↓evSo_some, vcC_seq, vcC_reg, vcC_drw, vcC_skip, vcC_cond, vcC_block, vcC_exit, vcC_ret, vcC_bad, seqK_nrm, seqK_exit, seqK_ret, blkK_nrm, blkK_exit, blkK_ret, lopK_exit, lopK_ret, lopX_exit, lopX_ret, jmpK_nrm, jmpK_exit, jmpK_ret, nrmK_app, drwK_app, initE, vcR_nil, vcR_n, vcR_s, isCall, makes, hasU, slK, newOf, opR, binI, pickV, evS, evV, evX, evSs, evVs, evParts, evPartsS, fillV, catV, gOf, Go.Bx.get, Go.Bx.own?, cellsV, isCell, cut, cutD, nth, nthD, dropV, takeV, dropD, takeDV, putV, toDs, St.stp, Ef.stp, Stp.lg, lgs, setE, applyU, setO, delO, newN, keysO, callU, Ef.bad, Option.getD_some, Option.getD_none, Option.map_some, Option.map_none, List.all_cons, List.all_nil, List.map_cons, List.map_nil, List.append_nil, List.nil_append, List.cons_append, List.length_cons, List.length_nil, List.mem_cons, List.not_mem_nil, Bool.and_true, Bool.true_and, Bool.and_self, Bool.not_true, Bool.not_false, Bool.or_self, Bool.or_false, Bool.false_or, Bool.false_eq_true, Bool.true_eq_false, Bool.cond_true_left, Bool.cond_false_right, cond_true, cond_false, reduceCtorEq, ↓reduceIte, if_true, if_false, true_and, and_true, and_self, false_and, and_false, or_false, false_or, not_false_eq_true, not_true_eq_false, forall_const, true_implies, false_implies, implies_true, imp_self, eq_self, ne_eq, Nat.reduceAdd, Nat.reduceSub, Nat.reduceMul, Nat.reduceMod, Nat.reduceLeDiff, Nat.reduceEqDiff, Nat.zero_add, Nat.add_zero, Nat.le_refl, Nat.succ_ne_self, Nat.one_ne_zero, Nat.zero_ne_one, Int.toNat_natCast, litRow, List.drop_succ_cons, List.drop_zero, List.take_succ_cons, List.take_zero, pubE, pubV, pubL, pubO, pubFE, pubFV, pubFL, pubFO, delO, eqS, eqB, Nat.reduceLT, Nat.not_lt_zero, Nat.sub_zero, decide_true, decide_false, true_or, or_true, Int.le_refl, Int.cast_ofNat_Int, Int.reduceToNat, Int.reduceLT, Int.reduceLE, beq_self_eq_true, Nat.mul_one, Nat.one_mul, Nat.zero_mul])
          | refine And.intro (fun h => ?_) (fun h => ?_)
          | refine And.intro (by first | omega | (simp only [maxLen, decide_eq_true_eq, decide_eq_false_iff_not] at *; omega)) ?_
          | (refine TR.aslO rfl rfl rfl rfl trivial (Nat.le_of_ble_eq_true rfl) ?_
             try simp only [e6, e7, ↓evSo_some, vcC_seq, vcC_reg, vcC_drw, vcC_skip, vcC_cond, vcC_block, vcC_exit, vcC_ret, vcC_bad, seqK_nrm, seqK_exit, seqK_ret, blkK_nrm, blkK_exit, blkK_ret, lopK_exit, lopK_ret, lopX_exit, lopX_ret, jmpK_nrm, jmpK_exit, jmpK_ret, nrmK_app, drwK_app, initE, vcR_nil, vcR_n, vcR_s, isCall, makes, hasU, slK, newOf, opR, binI, pickV, evS, evV, evX, evSs, evVs, evParts, evPartsS, fillV, catV, gOf, Go.Bx.get, Go.Bx.own?, cellsV, isCell, cut, cutD, nth, nthD, dropV, takeV, dropD, takeDV, putV, toDs, St.stp, Ef.stp, Stp.lg, lgs, setE, applyU, setO, delO, newN, keysO, callU, Ef.bad, Option.getD_some, Option.getD_none, Option.map_some, Option.map_none, List.all_cons, List.all_nil, List.map_cons, List.map_nil, List.append_nil, List.nil_append, List.cons_append, List.length_cons, List.length_nil, List.mem_cons, List.not_mem_nil, Bool.and_true, Bool.true_and, Bool.and_self, Bool.not_true, Bool.not_false, Bool.or_self, Bool.or_false, Bool.false_or, Bool.false_eq_true, Bool.true_eq_false, Bool.cond_true_left, Bool.cond_false_right, cond_true, cond_false, reduceCtorEq, ↓reduceIte, if_true, if_false, true_and, and_true, and_self, false_and, and_false, or_false, false_or, not_false_eq_true, not_true_eq_false, forall_const, true_implies, false_implies, implies_true, imp_self, eq_self, ne_eq, Nat.reduceAdd, Nat.reduceSub, Nat.reduceMul, Nat.reduceMod, Nat.reduceLeDiff, Nat.reduceEqDiff, Nat.zero_add, Nat.add_zero, Nat.le_refl, Nat.succ_ne_self, Nat.one_ne_zero, Nat.zero_ne_one, Int.toNat_natCast, litRow, List.drop_succ_cons, List.drop_zero, List.take_succ_cons, List.take_zero, pubE, pubV, pubL, pubO, pubFE, pubFV, pubFL, pubFO, delO, eqS, eqB, Nat.reduceLT, Nat.not_lt_zero, Nat.sub_zero, decide_true, decide_false, true_or, or_true, Int.le_refl, Int.cast_ofNat_Int, Int.reduceToNat, Int.reduceLT, Int.reduceLE, beq_self_eq_true, Nat.mul_one, Nat.one_mul, Nat.zero_mul])
          | refine And.intro trivial ?_
          | refine And.intro rfl ?_
          | fail
      · have h' : (t - b + i) % 12 + 1 + 1 = 13 := by have := eq_of_beq h; omega
        have g1 : 1601 + (t - b + (i + 1)) / 12 = 1601 + (t - b + i) / 12 + 1 := by omega
        have g2 : (t - b + (i + 1)) % 12 + 1 = 1 := by omega
        exact lopK.on (i + 1) (by omega) (by omega) (Wk.of [] hfn rfl (by (simp only [EnvLe, VLe_refl, VLe_int, Go.Bx.get, ↓reduceIte, true_and, and_true, eq_self, Nat.reduceEqDiff]) <;> (first | exact wS (by omega) | (rw [List.length_append]; exact wS (by omega)) | assumption)) (by simp only [g1, g2, OwnLe, OLe_refl, exists_eq_left', Option.some.injEq, Go.Bx.own?, ↓reduceIte, and_self, eq_self, Int.cast_ofNat_Int]))
      · have h' : ¬ (t - b + i) % 12 + 1 + 1 = 13 := by simp only [beq_eq_false_iff_ne, ne_eq] at h; omega
        have g1 : 1601 + (t - b + (i + 1)) / 12 = 1601 + (t - b + i) / 12 := by omega
        have g2 : (t - b + (i + 1)) % 12 + 1 = (t - b + i) % 12 + 1 + 1 := by omega
        exact lopK.on (i + 1) (by omega) (by omega) (Wk.of [] hfn rfl (by (simp only [EnvLe, VLe_refl, VLe_int, Go.Bx.get, ↓reduceIte, true_and, and_true, eq_self, Nat.reduceEqDiff]) <;> (first | exact wS (by omega) | (rw [List.length_append]; exact wS (by omega)) | assumption)) (by simp only [g1, g2, OwnLe, OLe_refl, exists_eq_left', Option.some.injEq, Go.Bx.own?, ↓reduceIte, and_self, eq_self]))
    · have hib : i = b := by have := of_decide_eq_false h1; omega
      subst hib
      have g0 : t - i + i = t := by omega
      simp only [g0]
      clear h1 e6
      refine vcC.loop (X := Unit) (fun _ => ⟨[(1, .d (.int .i64 (i : Int))), (6, .own 6 0), (9, .d (.int .i64 0))], [(6, .fix [.d (.int .i64 (1601 + t / 12 : Nat)), .d (.int .i64 (t % 12 + 1 : Nat)), .d (.int .i64 (d : Int))])], [6]⟩)
        (fun _ => True) (fun _ => 0) () trivial (Wk.of [] hfn rfl (by simp only [EnvLe, VLe_refl, Go.Bx.get, ↓reduceIte, and_self, eq_self, Nat.reduceEqDiff]) (by simp only [OwnLe, OLe_refl, exists_eq_left', Option.some.injEq, Go.Bx.own?, ↓reduceIte, and_self, eq_self])) ?_
      intro _ _
      simp only [vcC_seq, vcC_reg, vcC_drw, vcC_skip, vcC_cond, vcC_block, vcC_exit, seqK_nrm, seqK_exit, blkK_nrm, blkK_exit, lopK_exit, nrmK_app, vcR_nil, vcR_n, isCall, makes, newOf, opR, binI, evS, evV, evX, Go.Bx.get, Go.Bx.own?, cellsV, cut, nth, putV, St.stp, Ef.stp, Stp.lg, lgs, setE, applyU, setO, newN, List.map_nil, List.append_nil, List.nil_append, List.cons_append, List.length_cons, List.length_nil, List.mem_cons, List.not_mem_nil, Bool.false_eq_true, ↓reduceIte, true_and, and_self, or_false, eq_self, Nat.reduceAdd, Nat.reduceLeDiff, Nat.reduceEqDiff, Nat.zero_add, Nat.add_zero, Nat.le_refl, Nat.succ_ne_self]
      have e12 : min (d : Int) (mlen (1601 + t / 12) (t % 12 + 1) : Nat) = ((min d (mlen (1601 + t / 12) (t % 12 + 1)) : Nat) : Int) := by omega
      have hml2 := mlen_le (1601 + t / 12) (t % 12 + 1)
      have cn := rNumD (1601 + t / 12) (t % 12 + 1) (min d (mlen (1601 + t / 12) (t % 12 + 1))) (by omega) (by omega) (by omega) (by omega) (by omega) (Nat.min_le_right _ _)
      refine ⟨fun h1 => ?_, fun h1 => ?_⟩
      · exfalso; have := of_decide_eq_true h1; omega
      clear h1
      repeat' first
          | (first
              | refine TR.p hP (by first | exact rMonth (1601 + t / 12) (t % 12 + 1)) (by repeat' first | exact trivial | (intro _; assumption) | apply And.intro) ?_
              | refine TR.gp hP rfl (fun _ => by first | exact rMonth (1601 + t / 12) (t % 12 + 1)) (fun _ => by repeat' first | exact trivial | (intro _; assumption) | apply And.intro) ?_
              | refine TR.pv hP rfl (by first | exact rMonth (1601 + t / 12) (t % 12 + 1)) trivial (by repeat' first | exact trivial | (intro _; assumption) | apply And.intro) ?_
             try simp only [e12, vcC_seq, vcC_reg, seqK_nrm, drwK_app, vcR_nil, vcR_n, isCall, makes, newOf, opR, evS, evV, evX, Go.Bx.get, Go.Bx.own?, cellsV, cut, dropV, takeV, putV, St.stp, Ef.stp, Stp.lg, lgs, setE, applyU, setO, newN, List.map_cons, List.map_nil, List.append_nil, List.nil_append, List.cons_append, List.length_cons, List.length_nil, List.mem_cons, List.not_mem_nil, Bool.false_eq_true, ↓reduceIte, true_and, and_self, or_false, eq_self, Nat.reduceAdd, Nat.reduceEqDiff, Nat.zero_add, Nat.le_refl, Nat.succ_ne_self])
          | refine And.intro (fun h => ?_) (fun h => ?_)
          | refine And.intro (by first | omega | (simp only [maxLen, decide_eq_true_eq, decide_eq_false_iff_not] at *; omega)) ?_
          | (refine TR.aslO rfl rfl rfl rfl trivial (Nat.le_of_ble_eq_true rfl) ?_
             try simp only [e12, ↓evSo_some, vcC_seq, vcC_reg, vcC_drw, vcC_skip, vcC_cond, vcC_block, vcC_exit, vcC_ret, vcC_bad, seqK_nrm, seqK_exit, seqK_ret, blkK_nrm, blkK_exit, blkK_ret, lopK_exit, lopK_ret, lopX_exit, lopX_ret, jmpK_nrm, jmpK_exit, jmpK_ret, nrmK_app, drwK_app, initE, vcR_nil, vcR_n, vcR_s, isCall, makes, hasU, slK, newOf, opR, binI, pickV, evS, evV, evX, evSs, evVs, evParts, evPartsS, fillV, catV, gOf, Go.Bx.get, Go.Bx.own?, cellsV, isCell, cut, cutD, nth, nthD, dropV, takeV, dropD, takeDV, putV, toDs, St.stp, Ef.stp, Stp.lg, lgs, setE, applyU, setO, delO, newN, keysO, callU, Ef.bad, Option.getD_some, Option.getD_none, Option.map_some, Option.map_none, List.all_cons, List.all_nil, List.map_cons, List.map_nil, List.append_nil, List.nil_append, List.cons_append, List.length_cons, List.length_nil, List.mem_cons, List.not_mem_nil, Bool.and_true, Bool.true_and, Bool.and_self, Bool.not_true, Bool.not_false, Bool.or_self, Bool.or_false, Bool.false_or, Bool.false_eq_true, Bool.true_eq_false, Bool.cond_true_left, Bool.cond_false_right, cond_true, cond_false, reduceCtorEq, ↓reduceIte, if_true, if_false, true_and, and_true, and_self, false_and, and_false, or_false, false_or, not_false_eq_true, not_true_eq_false, forall_const, true_implies, false_implies, implies_true, imp_self, eq_self, ne_eq, Nat.reduceAdd, Nat.reduceSub, Nat.reduceMul, Nat.reduceMod, Nat.reduceLeDiff, Nat.reduceEqDiff, Nat.zero_add, Nat.add_zero, Nat.le_refl, Nat.succ_ne_self, Nat.one_ne_zero, Nat.zero_ne_one, Int.toNat_natCast, litRow, List.drop_succ_cons, List.drop_zero, List.take_succ_cons, List.take_zero, pubE, pubV, pubL, pubO, pubFE, pubFV, pubFL, pubFO, delO, eqS, eqB, Nat.reduceLT, Nat.not_lt_zero, Nat.sub_zero, decide_true, decide_false, true_or, or_true, Int.le_refl, Int.cast_ofNat_Int, Int.reduceToNat, Int.reduceLT, Int.reduceLE, beq_self_eq_true, Nat.mul_one, Nat.one_mul, Nat.zero_mul])
          | refine And.intro trivial ?_
          | refine And.intro rfl ?_
          | fail
      repeat' first
          | (first
              | refine TR.p hP (by first | exact cn) (by repeat' first | exact trivial | (intro _; assumption) | apply And.intro) ?_
              | refine TR.gp hP rfl (fun _ => by first | exact cn) (fun _ => by repeat' first | exact trivial | (intro _; assumption) | apply And.intro) ?_
              | refine TR.pv hP rfl (by first | exact cn) trivial (by repeat' first | exact trivial | (intro _; assumption) | apply And.intro) ?_
             try simp only [vcC_ret, seqK_nrm, nrmK_app, vcR_nil, vcR_n, isCall, makes, newOf, opR, evS, evV, evX, Go.Bx.get, nth, St.stp, Ef.stp, lgs, setE, applyU, newN, List.length_cons, List.length_nil, Bool.false_eq_true, ↓reduceIte, true_and, and_self, eq_self, Nat.reduceAdd, Nat.reduceEqDiff, Nat.zero_add, Nat.succ_ne_self, Nat.reduceLT])
          | refine And.intro (fun h => ?_) (fun h => ?_)
          | refine And.intro (by first | omega | (simp only [maxLen, decide_eq_true_eq, decide_eq_false_iff_not] at *; omega)) ?_
          | (refine TR.aslO rfl rfl rfl rfl trivial (Nat.le_of_ble_eq_true rfl) ?_
             try simp only [↓evSo_some, vcC_seq, vcC_reg, vcC_drw, vcC_skip, vcC_cond, vcC_block, vcC_exit, vcC_ret, vcC_bad, seqK_nrm, seqK_exit, seqK_ret, blkK_nrm, blkK_exit, blkK_ret, lopK_exit, lopK_ret, lopX_exit, lopX_ret, jmpK_nrm, jmpK_exit, jmpK_ret, nrmK_app, drwK_app, initE, vcR_nil, vcR_n, vcR_s, isCall, makes, hasU, slK, newOf, opR, binI, pickV, evS, evV, evX, evSs, evVs, evParts, evPartsS, fillV, catV, gOf, Go.Bx.get, Go.Bx.own?, cellsV, isCell, cut, cutD, nth, nthD, dropV, takeV, dropD, takeDV, putV, toDs, St.stp, Ef.stp, Stp.lg, lgs, setE, applyU, setO, delO, newN, keysO, callU, Ef.bad, Option.getD_some, Option.getD_none, Option.map_some, Option.map_none, List.all_cons, List.all_nil, List.map_cons, List.map_nil, List.append_nil, List.nil_append, List.cons_append, List.length_cons, List.length_nil, List.mem_cons, List.not_mem_nil, Bool.and_true, Bool.true_and, Bool.and_self, Bool.not_true, Bool.not_false, Bool.or_self, Bool.or_false, Bool.false_or, Bool.false_eq_true, Bool.true_eq_false, Bool.cond_true_left, Bool.cond_false_right, cond_true, cond_false, reduceCtorEq, ↓reduceIte, if_true, if_false, true_and, and_true, and_self, false_and, and_false, or_false, false_or, not_false_eq_true, not_true_eq_false, forall_const, true_implies, false_implies, implies_true, imp_self, eq_self, ne_eq, Nat.reduceAdd, Nat.reduceSub, Nat.reduceMul, Nat.reduceMod, Nat.reduceLeDiff, Nat.reduceEqDiff, Nat.zero_add, Nat.add_zero, Nat.le_refl, Nat.succ_ne_self, Nat.one_ne_zero, Nat.zero_ne_one, Int.toNat_natCast, litRow, List.drop_succ_cons, List.drop_zero, List.take_succ_cons, List.take_zero, pubE, pubV, pubL, pubO, pubFE, pubFV, pubFL, pubFO, delO, eqS, eqB, Nat.reduceLT, Nat.not_lt_zero, Nat.sub_zero, decide_true, decide_false, true_or, or_true, Int.le_refl, Int.cast_ofNat_Int, Int.reduceToNat, Int.reduceLT, Int.reduceLE, beq_self_eq_true, Nat.mul_one, Nat.one_mul, Nat.zero_mul])
          | refine And.intro trivial ?_
          | refine And.intro rfl ?_
          | fail
      (refine RetK.pure (by simp only [rs29, ressS, resS, and_self]) (VLe.tups ?_); simp only [ressV, resV, Go.Bx.get, ↓reduceIte, eq_self, Nat.succ_ne_self])
      rw [hsh, hv, numE]
      by_cases h9 : 9600 ≤ t
      · rw [if_pos h9, if_pos (by omega)]; exact ⟨VLe.refl _, VLe.refl _, trivial⟩
      · rw [if_neg h9, if_neg (by omega)]; exact ⟨VLe.refl _, VLe.refl _, trivial⟩
  · rw [ofD, if_neg hi, ofE, if_neg hi] at co
    simp only [ymd] at co
    have hsh : shiftN n b = (0, 3) := by
      have := @isD_iff n
      rw [shiftN, if_pos]
      by_cases h1 : n < 1
      · exact .inl h1
      · right
        by_cases h2 : n ≤ 292194
        · exact absurd (this.2 ⟨by omega, h2⟩) hi
        · omega
    refine pure29 (by simp) rfl rfl ?_; intro c hP hfn; simp only [c29, vcC_seq, vcC_reg, seqK_nrm, nrmK_app, initE, vcR_nil, vcR_n, isCall, makes, newOf, opR, evS, evV, evX, Go.Bx.get, St.stp, Ef.stp, lgs, setE, applyU, newN, Bool.false_eq_true, reduceCtorEq, ↓reduceIte, true_and, eq_self, Nat.zero_add]
    repeat' first
        | (first
            | refine TR.p hP (by first | exact co) (by repeat' first | exact trivial | (intro _; assumption) | apply And.intro) ?_
            | refine TR.gp hP rfl (fun _ => by first | exact co) (fun _ => by repeat' first | exact trivial | (intro _; assumption) | apply And.intro) ?_
            | refine TR.pv hP rfl (by first | exact co) trivial (by repeat' first | exact trivial | (intro _; assumption) | apply And.intro) ?_
           try simp only [vcC_seq, vcC_reg, vcC_skip, vcC_cond, vcC_block, vcC_ret, seqK_nrm, seqK_ret, nrmK_app, vcR_nil, vcR_n, vcR_s, isCall, makes, hasU, newOf, opR, binI, pickV, evS, evV, evX, gOf, Go.Bx.get, Go.Bx.own?, cellsV, isCell, nth, putV, St.stp, Ef.stp, lgs, setE, applyU, setO, newN, Option.getD_some, List.all_cons, List.all_nil, List.length_cons, List.length_nil, List.mem_cons, List.not_mem_nil, Bool.true_and, Bool.and_self, Bool.false_eq_true, Bool.cond_true_left, ↓reduceIte, true_and, and_true, and_self, or_false, not_false_eq_true, forall_const, implies_true, imp_self, eq_self, Nat.reduceAdd, Nat.reduceEqDiff, Nat.zero_add, Nat.le_refl, Nat.succ_ne_self, Nat.zero_ne_one, Nat.reduceLT, Int.cast_ofNat_Int])
        | refine And.intro (fun h => ?_) (fun h => ?_)
        | refine And.intro (by first | omega | (simp only [maxLen, decide_eq_true_eq, decide_eq_false_iff_not] at *; omega)) ?_
        | (refine TR.aslO rfl rfl rfl rfl trivial (Nat.le_of_ble_eq_true rfl) ?_
           try simp only [↓evSo_some, vcC_seq, vcC_reg, vcC_drw, vcC_skip, vcC_cond, vcC_block, vcC_exit, vcC_ret, vcC_bad, seqK_nrm, seqK_exit, seqK_ret, blkK_nrm, blkK_exit, blkK_ret, lopK_exit, lopK_ret, lopX_exit, lopX_ret, jmpK_nrm, jmpK_exit, jmpK_ret, nrmK_app, drwK_app, initE, vcR_nil, vcR_n, vcR_s, isCall, makes, hasU, slK, newOf, opR, binI, pickV, evS, evV, evX, evSs, evVs, evParts, evPartsS, fillV, catV, gOf, Go.Bx.get, Go.Bx.own?, cellsV, isCell, cut, cutD, nth, nthD, dropV, takeV, dropD, takeDV, putV, toDs, St.stp, Ef.stp, Stp.lg, lgs, setE, applyU, setO, delO, newN, keysO, callU, Ef.bad, Option.getD_some, Option.getD_none, Option.map_some, Option.map_none, List.all_cons, List.all_nil, List.map_cons, List.map_nil, List.append_nil, List.nil_append, List.cons_append, List.length_cons, List.length_nil, List.mem_cons, List.not_mem_nil, Bool.and_true, Bool.true_and, Bool.and_self, Bool.not_true, Bool.not_false, Bool.or_self, Bool.or_false, Bool.false_or, Bool.false_eq_true, Bool.true_eq_false, Bool.cond_true_left, Bool.cond_false_right, cond_true, cond_false, reduceCtorEq, ↓reduceIte, if_true, if_false, true_and, and_true, and_self, false_and, and_false, or_false, false_or, not_false_eq_true, not_true_eq_false, forall_const, true_implies, false_implies, implies_true, imp_self, eq_self, ne_eq, Nat.reduceAdd, Nat.reduceSub, Nat.reduceMul, Nat.reduceMod, Nat.reduceLeDiff, Nat.reduceEqDiff, Nat.zero_add, Nat.add_zero, Nat.le_refl, Nat.succ_ne_self, Nat.one_ne_zero, Nat.zero_ne_one, Int.toNat_natCast, litRow, List.drop_succ_cons, List.drop_zero, List.take_succ_cons, List.take_zero, pubE, pubV, pubL, pubO, pubFE, pubFV, pubFL, pubFO, delO, eqS, eqB, Nat.reduceLT, Nat.not_lt_zero, Nat.sub_zero, decide_true, decide_false, true_or, or_true, Int.le_refl, Int.cast_ofNat_Int, Int.reduceToNat, Int.reduceLT, Int.reduceLE, beq_self_eq_true, Nat.mul_one, Nat.one_mul, Nat.zero_mul])
        | refine And.intro trivial ?_
        | refine And.intro rfl ?_
        | fail
    · (refine RetK.pure (by simp only [rs29, ressS, resS, and_self]) (VLe.tups ?_); simp only [ressV, resV, Go.Bx.get, ↓reduceIte, eq_self, Nat.succ_ne_self])
      rw [hsh]; exact ⟨VLe.refl _, VLe.refl _, trivial⟩
    · exfalso; simp at h
end Go.Proofs.Ythkfedghiklmeaa
