import Derived.Test.YtkcfgdafhfllgaaC
namespace Go.Proofs.Ytkcfgdafhfllgaa
open Go.Bx
set_option maxRecDepth 10000

theorem facsR_len (v : Vs) (r : Rk) (c : Cv) : (facsR v r c).length = 5 := rfl
theorem base_nth {v : Vs} {k : Int} (h : 0 ≤ k ∧ k < 4) (a b c d : V) (x : V) : nth [x, .d (.int .i64 v.b0), .d (.int .i64 v.b1), .d (.int .i64 v.b2), .d (.int .i64 v.b3), a, b, c, d] (1 + k.toNat) = .d (.int .i64 (baseR v k)) := by
  have : k = 0 ∨ k = 1 ∨ k = 2 ∨ k = 3 := by omega
  rcases this with rfl | rfl | rfl | rfl <;> rfl
theorem facs_nth {v : Vs} {r : Rk} {c : Cv} {k : Nat} (h : k < 5) : nth [.d (.int .i64 (baseR v r.kd)), .d (.int .i64 (bandR v.age r.ag)), .d (.int .i64 (v.zn.getD r.zo.toNat 0)), .d (.int .i64 (v.pr.getD c.pe.toNat 0)), .d (.int .i64 c.sh)] k = .d (.int .i64 ((facsR v r c).getD k 0)) := by
  have : k = 0 ∨ k = 1 ∨ k = 2 ∨ k = 3 ∨ k = 4 := by omega
  rcases this with rfl | rfl | rfl | rfl | rfl <;> rfl
theorem facs_lit {v : Vs} {r : Rk} {c : Cv} {i : Nat} (h : i < 5) : litRow 1 [.int .i64 (baseR v r.kd), .int .i64 (bandR v.age r.ag), .int .i64 (v.zn.getD r.zo.toNat 0), .int .i64 (v.pr.getD c.pe.toNat 0), .int .i64 c.sh] i = [.int .i64 ((facsR v r c).getD i 0)] := by
  have : i = 0 ∨ i = 1 ∨ i = 2 ∨ i = 3 ∨ i = 4 := by omega
  rcases this with rfl | rfl | rfl | rfl | rfl <;> rfl
theorem oneR_bad {v : Vs} {r : Rk} {c : Cv} (h : mayQ v r c = false) : oneR v r c = (0, 1) := by rw [oneR, if_pos h]
theorem oneR_none {v : Vs} {r : Rk} {c : Cv} (h : mayQ v r c = true) (h2 : (v.zn.length : Int) ≤ r.zo) : oneR v r c = (0, 7) := by rw [oneR, if_neg (by rw [h]; simp), if_pos h2]
theorem oneR_go {v : Vs} {r : Rk} {c : Cv} (h : mayQ v r c = true) (h2 : ¬ (v.zn.length : Int) ≤ r.zo) :
    oneR v r c = if (goQ r.va (facsR v r c)).2 = 0 then (max (goQ r.va (facsR v r c)).1 v.mn, 0) else (0, (goQ r.va (facsR v r c)).2) := by rw [oneR, if_neg (by rw [h]; simp), if_neg h2]

set_option maxHeartbeats 2000000 in
theorem sOne (v : Vs) (r : Rk) (w : Cv) (hv : ShortV v) : Ctr Try.prog 11 [vV v, vR r, vC w] [] (.tup [.d (.int .i64 (oneR v r w).1), .d (.int .i64 (oneR v r w).2)]) [] [] := by
  have c1 := sVersion v hv
  have c2 := sRisk r
  have c3 := sCover w
  have c4 := sBand v.age r.ag hv.age
  have hm2 : mayQ v r w = (rightV v && rightR r && rightC w) := rfl
  have hz2 := hv.zn
  have hp2 := hv.pr
  simp only [vV, cV, vR, cR, vC, cC, slB, slK] at c1 c2 c3 c4
  generalize rightV v = q1 at c1 hm2
  generalize rightR r = q2 at c2 hm2
  generalize rightC w = q3 at c3 hm2
  refine pure11 (by simp) rfl rfl ?_; intro c hP hfn; simp only [c11, vV, cV, vR, cR, vC, cC, slB, slK, vcC_seq, vcC_reg, seqK_nrm, nrmK_app, initE, vcR_nil, vcR_n, isCall, makes, slK, newOf, opR, evS, evV, evX, Go.Bx.get, cellsV, isCell, St.stp, Ef.stp, lgs, setE, applyU, setO, newN, Option.getD_some, List.all_cons, List.all_nil, List.mem_cons, List.not_mem_nil, Bool.and_self, Bool.false_eq_true, reduceCtorEq, ↓reduceIte, true_and, and_self, or_false, not_false_eq_true, eq_self, Nat.reduceAdd, Nat.reduceEqDiff, Nat.zero_add, Nat.succ_ne_self, Nat.zero_ne_one]
  refine vcC.scope0 ?_
  simp only [vcC_seq, vcC_reg, vcC_block, vcR_n, isCall, makes, newOf, opR, evS, evV, evX, Go.Bx.get, Go.Bx.own?, cut, dropV, takeV, St.stp, Ef.stp, lgs, setE, applyU, newN, List.length_cons, List.length_nil, Bool.false_eq_true, ↓reduceIte, true_and, and_self, eq_self, Nat.reduceAdd, Nat.reduceEqDiff, Nat.zero_add, Nat.le_refl, Nat.succ_ne_self]
  repeat' first
      | (first
          | refine TR.p hP (by first | exact c1 | exact c2 | exact c3) (by repeat' first | exact trivial | (intro _; assumption) | apply And.intro) ?_
          | refine TR.gp hP rfl (fun _ => by first | exact c1 | exact c2 | exact c3) (fun _ => by repeat' first | exact trivial | (intro _; assumption) | apply And.intro) ?_
          | refine TR.pv hP rfl (by first | exact c1 | exact c2 | exact c3) trivial (by repeat' first | exact trivial | (intro _; assumption) | apply And.intro) ?_
         try simp only [vcC_seq, vcC_reg, vcC_drw, vcC_skip, vcC_cond, vcC_ret, seqK_nrm, seqK_ret, blkK_nrm, blkK_ret, jmpK_ret, nrmK_app, vcR_nil, vcR_n, vcR_s, isCall, makes, hasU, newOf, opR, binI, pickV, evS, evV, evX, gOf, Go.Bx.get, Go.Bx.own?, cut, nth, dropV, takeV, St.stp, Ef.stp, Stp.lg, lgs, setE, applyU, newN, Option.getD_some, List.map_nil, List.append_nil, List.nil_append, List.cons_append, List.length_cons, List.length_nil, List.mem_cons, List.not_mem_nil, Bool.true_and, Bool.false_eq_true, Bool.cond_true_left, ↓reduceIte, true_and, and_self, or_false, not_false_eq_true, forall_const, implies_true, imp_self, eq_self, Nat.reduceAdd, Nat.reduceLeDiff, Nat.reduceEqDiff, Nat.zero_add, Nat.add_zero, Nat.le_refl, Nat.succ_ne_self, Int.cast_ofNat_Int, Nat.mul_one])
      | refine And.intro (fun h => ?_) (fun h => ?_)
      | refine And.intro (by first | omega | (simp only [decide_eq_false_iff_not] at *; omega)) ?_
      | (refine TR.aslO rfl rfl rfl rfl trivial (Nat.le_of_ble_eq_true rfl) ?_
         try simp only [↓evSo_some, vcC_seq, vcC_reg, vcC_drw, vcC_skip, vcC_cond, vcC_block, vcC_exit, vcC_ret, vcC_bad, seqK_nrm, seqK_exit, seqK_ret, blkK_nrm, blkK_exit, blkK_ret, lopK_exit, lopK_ret, lopX_exit, lopX_ret, jmpK_nrm, jmpK_exit, jmpK_ret, nrmK_app, drwK_app, initE, vcR_nil, vcR_n, vcR_s, isCall, makes, hasU, slK, newOf, opR, binI, pickV, evS, evV, evX, evSs, evVs, evParts, evPartsS, fillV, catV, gOf, Go.Bx.get, Go.Bx.own?, cellsV, isCell, cut, cutD, nth, nthD, dropV, takeV, dropD, takeDV, putV, toDs, St.stp, Ef.stp, Stp.lg, lgs, setE, applyU, setO, delO, newN, keysO, callU, Ef.bad, Option.getD_some, Option.getD_none, Option.map_some, Option.map_none, List.all_cons, List.all_nil, List.map_cons, List.map_nil, List.append_nil, List.nil_append, List.cons_append, List.length_cons, List.length_nil, List.mem_cons, List.not_mem_nil, Bool.and_true, Bool.true_and, Bool.and_self, Bool.not_true, Bool.not_false, Bool.or_self, Bool.or_false, Bool.false_or, Bool.false_eq_true, Bool.true_eq_false, Bool.cond_true_left, Bool.cond_false_right, cond_true, cond_false, reduceCtorEq, ↓reduceIte, if_true, if_false, true_and, and_true, and_self, false_and, and_false, or_false, false_or, not_false_eq_true, not_true_eq_false, forall_const, true_implies, false_implies, implies_true, imp_self, eq_self, ne_eq, Nat.reduceAdd, Nat.reduceSub, Nat.reduceMul, Nat.reduceMod, Nat.reduceLeDiff, Nat.reduceEqDiff, Nat.zero_add, Nat.add_zero, Nat.le_refl, Nat.succ_ne_self, Nat.one_ne_zero, Nat.zero_ne_one, Int.toNat_natCast, litRow, List.drop_succ_cons, List.drop_zero, List.take_succ_cons, List.take_zero, pubE, pubV, pubL, pubO, pubFE, pubFV, pubFL, pubFO, delO, eqS, eqB, Nat.reduceLT, Nat.not_lt_zero, Nat.sub_zero, decide_true, decide_false, true_or, or_true, Int.le_refl, Int.cast_ofNat_Int, Int.reduceToNat, Int.reduceLT, Int.reduceLE, beq_self_eq_true, Nat.mul_one, Nat.one_mul, Nat.zero_mul])
      | refine And.intro trivial ?_
      | refine And.intro rfl ?_
      | fail
  · have hm : mayQ v r w = false := by rw [hm2]; cases q1 <;> cases q2 <;> cases q3 <;> simp_all
    (refine RetK.pure (by simp only [rs11, ressS, resS, and_self]) (VLe.tups ?_); simp only [ressV, resV, Go.Bx.get, ↓reduceIte, eq_self, Nat.succ_ne_self])
    rw [oneR_bad hm]; exact ⟨VLe.refl _, VLe.refl _, trivial⟩
  · rename_i h0
    have hm : mayQ v r w = true := by rw [hm2]; cases q1 <;> cases q2 <;> cases q3 <;> simp_all
    (refine RetK.pure (by simp only [rs11, ressS, resS, and_self]) (VLe.tups ?_); simp only [ressV, resV, Go.Bx.get, ↓reduceIte, eq_self, Nat.succ_ne_self])
    rw [oneR_none hm (of_decide_eq_true h)]; exact ⟨VLe.refl _, VLe.refl _, trivial⟩
  rename_i h0
  have hm : mayQ v r w = true := by rw [hm2]; cases q1 <;> cases q2 <;> cases q3 <;> simp_all
  clear h0
  have hf := facs_ok hm
  obtain ⟨f1, f2, f3, f4, f5, f6, f7, f8⟩ := hf
  have hbn := base_nth (v := v) f2 (.d (slB v.age)) (.d (slK .i64 v.zn)) (.d (slK .i64 v.pr)) (.d (.int .i64 v.mn)) (.d (.int .i64 v.fr))
  simp only [slB, slK] at hbn
  have hz : ¬ (v.zn.length : Int) ≤ r.zo := of_decide_eq_false h
  have he := oneR_go hm hz
  have hpr : (v.pr.length : Int) = 8 := by omega
  clear h
  simp only [hbn]
  repeat' first
      | (first
          | refine TR.p hP (by first | exact c4) (by repeat' first | exact trivial | (intro _; assumption) | apply And.intro) ?_
          | refine TR.gp hP rfl (fun _ => by first | exact c4) (fun _ => by repeat' first | exact trivial | (intro _; assumption) | apply And.intro) ?_
          | refine TR.pv hP rfl (by first | exact c4) trivial (by repeat' first | exact trivial | (intro _; assumption) | apply And.intro) ?_
         try simp only [vcC_block, seqK_nrm, drwK_app, vcR_nil, vcR_n, isCall, makes, newOf, opR, evS, evV, evX, evParts, evPartsS, fillV, Go.Bx.get, Go.Bx.own?, cellsV, cut, cutD, nth, nthD, putV, St.stp, Ef.stp, Stp.lg, lgs, setE, applyU, newN, List.map_nil, List.append_nil, List.nil_append, List.cons_append, List.length_cons, List.length_nil, Bool.and_self, Bool.false_eq_true, ↓reduceIte, true_and, and_true, and_self, eq_self, Nat.reduceAdd, Nat.reduceLeDiff, Nat.reduceEqDiff, Nat.zero_add, Nat.add_zero, Nat.le_refl, Nat.succ_ne_self, decide_true])
      | refine And.intro (fun h => ?_) (fun h => ?_)
      | refine And.intro (by first | omega | (simp only [maxLen, decide_eq_true_eq, decide_eq_false_iff_not] at *; omega)) ?_
      | (refine TR.aslO rfl rfl rfl rfl trivial (Nat.le_of_ble_eq_true rfl) ?_
         try simp only [hbn, ↓evSo_some, vcC_seq, vcC_reg, vcC_drw, vcC_skip, vcC_cond, vcC_block, vcC_exit, vcC_ret, vcC_bad, seqK_nrm, seqK_exit, seqK_ret, blkK_nrm, blkK_exit, blkK_ret, lopK_exit, lopK_ret, lopX_exit, lopX_ret, jmpK_nrm, jmpK_exit, jmpK_ret, nrmK_app, drwK_app, initE, vcR_nil, vcR_n, vcR_s, isCall, makes, hasU, slK, newOf, opR, binI, pickV, evS, evV, evX, evSs, evVs, evParts, evPartsS, fillV, catV, gOf, Go.Bx.get, Go.Bx.own?, cellsV, isCell, cut, cutD, nth, nthD, dropV, takeV, dropD, takeDV, putV, toDs, St.stp, Ef.stp, Stp.lg, lgs, setE, applyU, setO, delO, newN, keysO, callU, Ef.bad, Option.getD_some, Option.getD_none, Option.map_some, Option.map_none, List.all_cons, List.all_nil, List.map_cons, List.map_nil, List.append_nil, List.nil_append, List.cons_append, List.length_cons, List.length_nil, List.mem_cons, List.not_mem_nil, Bool.and_true, Bool.true_and, Bool.and_self, Bool.not_true, Bool.not_false, Bool.or_self, Bool.or_false, Bool.false_or, Bool.false_eq_true, Bool.true_eq_false, Bool.cond_true_left, Bool.cond_false_right, cond_true, cond_false, reduceCtorEq, ↓reduceIte, if_true, if_false, true_and, and_true, and_self, false_and, and_false, or_false, false_or, not_false_eq_true, not_true_eq_false, forall_const, true_implies, false_implies, implies_true, imp_self, eq_self, ne_eq, Nat.reduceAdd, Nat.reduceSub, Nat.reduceMul, Nat.reduceMod, Nat.reduceLeDiff, Nat.reduceEqDiff, Nat.zero_add, Nat.add_zero, Nat.le_refl, Nat.succ_ne_self, Nat.one_ne_zero, Nat.zero_ne_one, Int.toNat_natCast, litRow, List.drop_succ_cons, List.drop_zero, List.take_succ_cons, List.take_zero, pubE, pubV, pubL, pubO, pubFE, pubFV, pubFL, pubFO, delO, eqS, eqB, Nat.reduceLT, Nat.not_lt_zero, Nat.sub_zero, decide_true, decide_false, true_or, or_true, Int.le_refl, Int.cast_ofNat_Int, Int.reduceToNat, Int.reduceLT, Int.reduceLE, beq_self_eq_true, Nat.mul_one, Nat.one_mul, Nat.zero_mul])
      | refine And.intro trivial ?_
      | refine And.intro rfl ?_
      | fail
  refine vcC.loop (X := Nat × Int) (fun x => ⟨[(3, .own 3 0), (8, .d (.int .i64 x.2)), (9, .d (.int .i64 0)), (59, .ag [.d (.int .i64 (baseR v r.kd)), .d (.int .i64 (bandR v.age r.ag)), .d (.int .i64 (v.zn.getD r.zo.toNat 0)), .d (.int .i64 (v.pr.getD w.pe.toNat 0)), .d (.int .i64 w.sh)]), (60, .d (.int .i64 x.1))], [(3, .fix (cV v))], [3]⟩)
    (fun x => x.1 ≤ 5 ∧ 0 ≤ x.2 ∧ x.2 ≤ 4000000000000000000 ∧ goQ r.va (facsR v r w) = goQ x.2 ((facsR v r w).drop x.1)) (fun x => 5 - x.1) (0, r.va) ⟨by omega, by simp only; omega, by simp only; omega, rfl⟩ (Wk.of [] hfn rfl (by simp only [EnvLe, VLe_refl, Go.Bx.get, ↓reduceIte, and_self, eq_self, Nat.reduceEqDiff, Nat.succ_ne_self, Int.cast_ofNat_Int]) (by simp only [cV, slB, slK, OwnLe, OLe_refl, exists_eq_left', Option.some.injEq, slK, Go.Bx.own?, ↓reduceIte, and_self, eq_self])) ?_
  rintro ⟨k, m⟩ ⟨hk, hm0, hm1, hgo⟩
  simp only at hk hm0 hm1 hgo
  simp only [cV, slB, slK, vcC_seq, vcC_reg, vcC_skip, vcC_cond, vcC_block, vcC_exit, vcC_ret, seqK_nrm, seqK_exit, seqK_ret, blkK_exit, lopK_exit, jmpK_ret, nrmK_app, vcR_nil, vcR_n, isCall, makes, slK, newOf, opR, binI, evS, evV, evX, Go.Bx.get, Go.Bx.own?, cut, nth, St.stp, Ef.stp, lgs, setE, applyU, newN, List.length_cons, List.length_nil, Bool.false_eq_true, ↓reduceIte, true_and, and_true, and_self, forall_const, eq_self, Nat.reduceAdd, Nat.reduceEqDiff, Nat.zero_add, Nat.le_refl, Nat.succ_ne_self, Int.toNat_natCast, Int.cast_ofNat_Int, Nat.mul_one, Nat.one_mul]
  refine ⟨fun h1 => ?_, fun h1 => ?_⟩
  · have hlt : k < 5 := by have := of_decide_eq_true h1; omega
    have hn := facs_nth (v := v) (r := r) (c := w) hlt
    obtain ⟨x, hd, hg, hmem, -⟩ := drop_at (l := facsR v r w) (show k < (facsR v r w).length from hlt)
    have hx := f8 x hmem
    have c5 := sBp m x (by omega) (by omega)
    have hb := bpR_fst m x
    rw [hd, goQ] at hgo
    simp only [hn, hg, true_and]
    repeat' first
        | (first
            | refine TR.p hP (by first | exact c5) (by repeat' first | exact trivial | (intro _; assumption) | apply And.intro) ?_
            | refine TR.gp hP rfl (fun _ => by first | exact c5) (fun _ => by repeat' first | exact trivial | (intro _; assumption) | apply And.intro) ?_
            | refine TR.pv hP rfl (by first | exact c5) trivial (by repeat' first | exact trivial | (intro _; assumption) | apply And.intro) ?_
           try simp only [vcC_seq, vcC_reg, vcC_skip, vcC_cond, vcC_exit, vcC_ret, seqK_nrm, seqK_exit, seqK_ret, blkK_nrm, blkK_exit, lopK_exit, jmpK_ret, nrmK_app, vcR_nil, vcR_n, isCall, makes, newOf, opR, binI, evS, evV, evX, Go.Bx.get, Go.Bx.own?, cut, nth, St.stp, Ef.stp, lgs, setE, applyU, newN, List.length_cons, List.length_nil, Bool.false_eq_true, ↓reduceIte, true_and, and_self, eq_self, Nat.reduceAdd, Nat.reduceEqDiff, Nat.zero_add, Nat.le_refl, Nat.succ_ne_self, Nat.reduceLT])
        | refine And.intro (fun h => ?_) (fun h => ?_)
        | refine And.intro (by first | omega | (simp only [maxLen, decide_eq_true_eq, decide_eq_false_iff_not] at *; omega)) ?_
        | (refine TR.aslO rfl rfl rfl rfl trivial (Nat.le_of_ble_eq_true rfl) ?_
           try simp only [↓evSo_some, vcC_seq, vcC_reg, vcC_drw, vcC_skip, vcC_cond, vcC_block, vcC_exit, vcC_ret, vcC_bad, seqK_nrm, seqK_exit, seqK_ret, blkK_nrm, blkK_exit, blkK_ret, lopK_exit, lopK_ret, lopX_exit, lopX_ret, jmpK_nrm, jmpK_exit, jmpK_ret, nrmK_app, drwK_app, initE, vcR_nil, vcR_n, vcR_s, isCall, makes, hasU, slK, newOf, opR, binI, pickV, evS, evV, evX, evSs, evVs, evParts, evPartsS, fillV, catV, gOf, Go.Bx.get, Go.Bx.own?, cellsV, isCell, cut, cutD, nth, nthD, dropV, takeV, dropD, takeDV, putV, toDs, St.stp, Ef.stp, Stp.lg, lgs, setE, applyU, setO, delO, newN, keysO, callU, Ef.bad, Option.getD_some, Option.getD_none, Option.map_some, Option.map_none, List.all_cons, List.all_nil, List.map_cons, List.map_nil, List.append_nil, List.nil_append, List.cons_append, List.length_cons, List.length_nil, List.mem_cons, List.not_mem_nil, Bool.and_true, Bool.true_and, Bool.and_self, Bool.not_true, Bool.not_false, Bool.or_self, Bool.or_false, Bool.false_or, Bool.false_eq_true, Bool.true_eq_false, Bool.cond_true_left, Bool.cond_false_right, cond_true, cond_false, reduceCtorEq, ↓reduceIte, if_true, if_false, true_and, and_true, and_self, false_and, and_false, or_false, false_or, not_false_eq_true, not_true_eq_false, forall_const, true_implies, false_implies, implies_true, imp_self, eq_self, ne_eq, Nat.reduceAdd, Nat.reduceSub, Nat.reduceMul, Nat.reduceMod, Nat.reduceLeDiff, Nat.reduceEqDiff, Nat.zero_add, Nat.add_zero, Nat.le_refl, Nat.succ_ne_self, Nat.one_ne_zero, Nat.zero_ne_one, Int.toNat_natCast, litRow, List.drop_succ_cons, List.drop_zero, List.take_succ_cons, List.take_zero, pubE, pubV, pubL, pubO, pubFE, pubFV, pubFL, pubFO, delO, eqS, eqB, Nat.reduceLT, Nat.not_lt_zero, Nat.sub_zero, decide_true, decide_false, true_or, or_true, Int.le_refl, Int.cast_ofNat_Int, Int.reduceToNat, Int.reduceLT, Int.reduceLE, beq_self_eq_true, Nat.mul_one, Nat.one_mul, Nat.zero_mul])
        | refine And.intro trivial ?_
        | refine And.intro rfl ?_
        | fail
    · have h' : ¬ (bpR m x).2 = 0 := by simpa using h
      rw [if_neg h'] at hgo
      rw [hgo, if_neg h'] at he
      (refine RetK.pure (by simp only [rs11, ressS, resS, and_self]) (VLe.tups ?_); simp only [ressV, resV, Go.Bx.get, ↓reduceIte, eq_self, Nat.succ_ne_self])
      rw [he]; exact ⟨VLe.refl _, VLe.refl _, trivial⟩
    · rename_i g; rw [g] at h; cases h
    · have h' : (bpR m x).2 = 0 := by simpa using h
      rw [if_pos h'] at hgo
      rw [h']
      exact lopK.on (k + 1, (bpR m x).1) ⟨hlt, hb.1, hb.2, hgo⟩ (by simp only; omega) (Wk.of [] hfn rfl (by (simp only [EnvLe, VLe_refl, VLe_int, Go.Bx.get, ↓reduceIte, true_and, and_true, eq_self, Nat.reduceEqDiff, Nat.succ_ne_self]) <;> (first | exact wS (by omega) | (rw [List.length_append]; exact wS (by omega)) | assumption)) (by simp only [OwnLe, OLe_refl, exists_eq_left', Option.some.injEq, Go.Bx.own?, ↓reduceIte, and_self, eq_self]))
  · have hk5 : k = 5 := by have := of_decide_eq_false h1; omega
    rw [hk5, show (facsR v r w).drop 5 = [] from rfl, goQ] at hgo
    rw [hgo, if_pos rfl] at he
    repeat' first
        | (first
            | refine TR.p hP (by first | fail) (by repeat' first | exact trivial | (intro _; assumption) | apply And.intro) ?_
            | refine TR.gp hP rfl (fun _ => by first | fail) (fun _ => by repeat' first | exact trivial | (intro _; assumption) | apply And.intro) ?_
            | refine TR.pv hP rfl (by first | fail) trivial (by repeat' first | exact trivial | (intro _; assumption) | apply And.intro) ?_
           try simp only [↓evSo_some, vcC_seq, vcC_reg, vcC_drw, vcC_skip, vcC_cond, vcC_block, vcC_exit, vcC_ret, vcC_bad, seqK_nrm, seqK_exit, seqK_ret, blkK_nrm, blkK_exit, blkK_ret, lopK_exit, lopK_ret, lopX_exit, lopX_ret, jmpK_nrm, jmpK_exit, jmpK_ret, nrmK_app, drwK_app, initE, vcR_nil, vcR_n, vcR_s, isCall, makes, hasU, slK, newOf, opR, binI, pickV, evS, evV, evX, evSs, evVs, evParts, evPartsS, fillV, catV, gOf, Go.Bx.get, Go.Bx.own?, cellsV, isCell, cut, cutD, nth, nthD, dropV, takeV, dropD, takeDV, putV, toDs, St.stp, Ef.stp, Stp.lg, lgs, setE, applyU, setO, delO, newN, keysO, callU, Ef.bad, Option.getD_some, Option.getD_none, Option.map_some, Option.map_none, List.all_cons, List.all_nil, List.map_cons, List.map_nil, List.append_nil, List.nil_append, List.cons_append, List.length_cons, List.length_nil, List.mem_cons, List.not_mem_nil, Bool.and_true, Bool.true_and, Bool.and_self, Bool.not_true, Bool.not_false, Bool.or_self, Bool.or_false, Bool.false_or, Bool.false_eq_true, Bool.true_eq_false, Bool.cond_true_left, Bool.cond_false_right, cond_true, cond_false, reduceCtorEq, ↓reduceIte, if_true, if_false, true_and, and_true, and_self, false_and, and_false, or_false, false_or, not_false_eq_true, not_true_eq_false, forall_const, true_implies, false_implies, implies_true, imp_self, eq_self, ne_eq, Nat.reduceAdd, Nat.reduceSub, Nat.reduceMul, Nat.reduceMod, Nat.reduceLeDiff, Nat.reduceEqDiff, Nat.zero_add, Nat.add_zero, Nat.le_refl, Nat.succ_ne_self, Nat.one_ne_zero, Nat.zero_ne_one, Int.toNat_natCast, litRow, List.drop_succ_cons, List.drop_zero, List.take_succ_cons, List.take_zero, pubE, pubV, pubL, pubO, pubFE, pubFV, pubFL, pubFO, delO, eqS, eqB, Nat.reduceLT, Nat.not_lt_zero, Nat.sub_zero, decide_true, decide_false, true_or, or_true, Int.le_refl, Int.cast_ofNat_Int, Int.reduceToNat, Int.reduceLT, Int.reduceLE, beq_self_eq_true, Nat.mul_one, Nat.one_mul, Nat.zero_mul])
        | refine And.intro (fun h => ?_) (fun h => ?_)
        | refine And.intro (by first | omega | (simp only [maxLen, decide_eq_true_eq, decide_eq_false_iff_not] at *; omega)) ?_
        | (refine TR.aslO rfl rfl rfl rfl trivial (Nat.le_of_ble_eq_true rfl) ?_
           try simp only [↓evSo_some, vcC_seq, vcC_reg, vcC_drw, vcC_skip, vcC_cond, vcC_block, vcC_exit, vcC_ret, vcC_bad, seqK_nrm, seqK_exit, seqK_ret, blkK_nrm, blkK_exit, blkK_ret, lopK_exit, lopK_ret, lopX_exit, lopX_ret, jmpK_nrm, jmpK_exit, jmpK_ret, nrmK_app, drwK_app, initE, vcR_nil, vcR_n, vcR_s, isCall, makes, hasU, slK, newOf, opR, binI, pickV, evS, evV, evX, evSs, evVs, evParts, evPartsS, fillV, catV, gOf, Go.Bx.get, Go.Bx.own?, cellsV, isCell, cut, cutD, nth, nthD, dropV, takeV, dropD, takeDV, putV, toDs, St.stp, Ef.stp, Stp.lg, lgs, setE, applyU, setO, delO, newN, keysO, callU, Ef.bad, Option.getD_some, Option.getD_none, Option.map_some, Option.map_none, List.all_cons, List.all_nil, List.map_cons, List.map_nil, List.append_nil, List.nil_append, List.cons_append, List.length_cons, List.length_nil, List.mem_cons, List.not_mem_nil, Bool.and_true, Bool.true_and, Bool.and_self, Bool.not_true, Bool.not_false, Bool.or_self, Bool.or_false, Bool.false_or, Bool.false_eq_true, Bool.true_eq_false, Bool.cond_true_left, Bool.cond_false_right, cond_true, cond_false, reduceCtorEq, ↓reduceIte, if_true, if_false, true_and, and_true, and_self, false_and, and_false, or_false, false_or, not_false_eq_true, not_true_eq_false, forall_const, true_implies, false_implies, implies_true, imp_self, eq_self, ne_eq, Nat.reduceAdd, Nat.reduceSub, Nat.reduceMul, Nat.reduceMod, Nat.reduceLeDiff, Nat.reduceEqDiff, Nat.zero_add, Nat.add_zero, Nat.le_refl, Nat.succ_ne_self, Nat.one_ne_zero, Nat.zero_ne_one, Int.toNat_natCast, litRow, List.drop_succ_cons, List.drop_zero, List.take_succ_cons, List.take_zero, pubE, pubV, pubL, pubO, pubFE, pubFV, pubFL, pubFO, delO, eqS, eqB, Nat.reduceLT, Nat.not_lt_zero, Nat.sub_zero, decide_true, decide_false, true_or, or_true, Int.le_refl, Int.cast_ofNat_Int, Int.reduceToNat, Int.reduceLT, Int.reduceLE, beq_self_eq_true, Nat.mul_one, Nat.one_mul, Nat.zero_mul])
        | refine And.intro trivial ?_
        | refine And.intro rfl ?_
        | fail
    · exact absurd h (by decide)
    (refine RetK.pure (by simp only [rs11, ressS, resS, and_self]) (VLe.tups ?_); simp only [ressV, resV, Go.Bx.get, ↓reduceIte, eq_self, Nat.succ_ne_self])
    rw [he]; exact ⟨VLe.refl _, VLe.refl _, trivial⟩
end Go.Proofs.Ytkcfgdafhfllgaa
