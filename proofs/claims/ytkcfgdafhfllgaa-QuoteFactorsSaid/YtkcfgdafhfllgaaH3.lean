import Derived.Test.YtkcfgdafhfllgaaG
namespace Go.Proofs.Ytkcfgdafhfllgaa
open Go.Bx
set_option maxRecDepth 10000

theorem slK_set {full : Bool} {l : List Int} {n k : Nat} {x : Int} {F : Nat → List D} (hn : n = l.length) (hF : ∀ i, i < n → F i = if i = k then [.int .i64 x] else [.int .i64 (l.getD i 0)]) : VLe (.d (.sl full 1 n F)) (.d (slK .i64 (l.set k x))) :=
  VLe.sl (by simp [hn]) (fun _ => rfl) (by simp) fun i hi => by
    rw [hF i hi]
    by_cases h : i = k
    · subst h
      rw [if_pos rfl, List.getD_eq_getElem?_getD, List.getElem?_set_self (by omega)]; rfl
    · rw [if_neg h, List.getD_eq_getElem?_getD, List.getD_eq_getElem?_getD, List.getElem?_set_ne (fun e => h e.symm)]
theorem short_withZ {v : Vs} {k : Nat} {x : Int} (h : ShortV v) : ShortV (withZ v k x) := ⟨h.age, by simp only [withZ, List.length_set]; exact h.zn, h.pr⟩
theorem short_withP {v : Vs} {k : Nat} {x : Int} (h : ShortV v) : ShortV (withP v k x) := ⟨h.age, h.zn, by simp only [withP, List.length_set]; exact h.pr⟩
set_option maxHeartbeats 4000000 in
theorem lFactors (v : Vs) (r : Rk) (w : Cv) (hv : ShortV v) : Ctr Try.prog 7 [vV v, vR r, vC w] [] (.d (.bool true)) [] [] := by
  have k0 := lFew0 v
  have k1 := sOne v r w hv
  have hz2 := hv.zn
  have hp2 := hv.pr
  have ho := oneR_ok (v := v) (r := r) (c := w)
  have hz := one_zone (v := v) (r := r) (c := w)
  have hq := one_free (v := v) (r := r) (c := w)
  simp only [vV, vR, vC, cV, cR, cC, slB, slK] at k0 k1
  refine pure7 (by simp) rfl rfl ?_; intro c hP hfn; simp only [c7, vV, cV, vR, cR, vC, cC, slB, slK, vcC_seq, vcC_reg, seqK_nrm, nrmK_app, initE, vcR_nil, vcR_n, isCall, makes, slK, newOf, opR, evS, evV, evX, Go.Bx.get, Go.Bx.own?, cellsV, isCell, cut, dropV, takeV, St.stp, Ef.stp, lgs, setE, applyU, setO, newN, Option.getD_some, List.all_cons, List.all_nil, List.length_cons, List.length_nil, List.mem_cons, List.not_mem_nil, Bool.and_self, Bool.false_eq_true, reduceCtorEq, ↓reduceIte, true_and, and_self, or_false, not_false_eq_true, eq_self, Nat.reduceAdd, Nat.reduceEqDiff, Nat.zero_add, Nat.le_refl, Nat.succ_ne_self, Nat.zero_ne_one]
  repeat' first
      | (first
          | refine TR.p hP (by first | exact k0 | exact k1 | exact lAlive) (by repeat' first | exact trivial | (intro _; assumption) | apply And.intro) ?_
          | refine TR.gp hP rfl (fun _ => by first | exact k0 | exact k1 | exact lAlive) (fun _ => by repeat' first | exact trivial | (intro _; assumption) | apply And.intro) ?_
          | refine TR.pv hP rfl (by first | exact k0 | exact k1 | exact lAlive) trivial (by repeat' first | exact trivial | (intro _; assumption) | apply And.intro) ?_
         try simp only [vcC_seq, vcC_reg, vcC_drw, vcC_skip, vcC_cond, vcC_ret, seqK_nrm, seqK_ret, nrmK_app, drwK_app, vcR_nil, vcR_n, vcR_s, isCall, makes, hasU, newOf, opR, binI, pickV, evS, evV, evX, evSs, evVs, catV, gOf, Go.Bx.get, Go.Bx.own?, cellsV, isCell, cut, cutD, nth, nthD, dropV, takeV, putV, toDs, St.stp, Ef.stp, Stp.lg, lgs, setE, applyU, setO, newN, Option.getD_some, Option.map_some, List.all_cons, List.all_nil, List.map_cons, List.map_nil, List.append_nil, List.nil_append, List.cons_append, List.length_cons, List.length_nil, List.mem_cons, List.not_mem_nil, Bool.true_and, Bool.and_self, Bool.false_eq_true, Bool.cond_true_left, ↓reduceIte, true_and, and_true, and_self, or_false, not_false_eq_true, forall_const, implies_true, imp_self, eq_self, Nat.reduceAdd, Nat.reduceLeDiff, Nat.reduceEqDiff, Nat.zero_add, Nat.add_zero, Nat.le_refl, Nat.succ_ne_self, Nat.reduceLT, Nat.not_lt_zero, Nat.sub_zero, true_or, or_true])
      | refine And.intro (fun h => ?_) (fun h => ?_)
      | refine And.intro (by first | omega | (simp only [maxLen] at *; omega)) ?_
      | (refine TR.aslO rfl rfl rfl rfl trivial (Nat.le_of_ble_eq_true rfl) ?_
         try simp only [↓evSo_some, vcC_seq, vcC_reg, vcC_drw, vcC_skip, vcC_cond, vcC_block, vcC_exit, vcC_ret, vcC_bad, seqK_nrm, seqK_exit, seqK_ret, blkK_nrm, blkK_exit, blkK_ret, lopK_exit, lopK_ret, lopX_exit, lopX_ret, jmpK_nrm, jmpK_exit, jmpK_ret, nrmK_app, drwK_app, initE, vcR_nil, vcR_n, vcR_s, isCall, makes, hasU, slK, newOf, opR, binI, pickV, evS, evV, evX, evSs, evVs, evParts, evPartsS, fillV, catV, gOf, Go.Bx.get, Go.Bx.own?, cellsV, isCell, cut, cutD, nth, nthD, dropV, takeV, dropD, takeDV, putV, toDs, St.stp, Ef.stp, Stp.lg, lgs, setE, applyU, setO, delO, newN, keysO, callU, Ef.bad, Option.getD_some, Option.getD_none, Option.map_some, Option.map_none, List.all_cons, List.all_nil, List.map_cons, List.map_nil, List.append_nil, List.nil_append, List.cons_append, List.length_cons, List.length_nil, List.mem_cons, List.not_mem_nil, Bool.and_true, Bool.true_and, Bool.and_self, Bool.not_true, Bool.not_false, Bool.or_self, Bool.or_false, Bool.false_or, Bool.false_eq_true, Bool.true_eq_false, Bool.cond_true_left, Bool.cond_false_right, cond_true, cond_false, reduceCtorEq, ↓reduceIte, if_true, if_false, true_and, and_true, and_self, false_and, and_false, or_false, false_or, not_false_eq_true, not_true_eq_false, forall_const, true_implies, false_implies, implies_true, imp_self, eq_self, ne_eq, Nat.reduceAdd, Nat.reduceSub, Nat.reduceMul, Nat.reduceMod, Nat.reduceLeDiff, Nat.reduceEqDiff, Nat.zero_add, Nat.add_zero, Nat.le_refl, Nat.succ_ne_self, Nat.one_ne_zero, Nat.zero_ne_one, Int.toNat_natCast, litRow, List.drop_succ_cons, List.drop_zero, List.take_succ_cons, List.take_zero, pubE, pubV, pubL, pubO, pubFE, pubFV, pubFL, pubFO, delO, eqS, eqB, Nat.reduceLT, Nat.not_lt_zero, Nat.sub_zero, decide_true, decide_false, true_or, or_true, Int.le_refl, Int.cast_ofNat_Int, Int.reduceToNat, Int.reduceLT, Int.reduceLE, beq_self_eq_true, Nat.mul_one, Nat.one_mul, Nat.zero_mul])
      | refine And.intro trivial ?_
      | refine And.intro rfl ?_
      | fail
  · exact RetK.pure (by simp only [rs7, ressS, resS, and_self]) (by (simp only [rs7, retV, resV, Go.Bx.get, ↓reduceIte, eq_self, VLe_refl, Go.Bx.get, ↓reduceIte, eq_self]) <;> (first | simp))
  · rename_i h0
    have g1 : (oneR v r w).2 = 0 := by simp only [Bool.or_eq_false_iff, bne_eq_false_iff_eq] at h0; exact h0.2
    obtain ⟨a1, a2, a3, a4⟩ := ho g1
    have hf := facs_ok a1
    have f1 := hf.pe; have f2 := hf.pr; have f3 := hf.zo
    exfalso
    simp only [Bool.or_eq_true, decide_eq_true_eq] at h
    omega
  rename_i h0
  have g1 : (oneR v r w).2 = 0 := by simp only [Bool.or_eq_false_iff, bne_eq_false_iff_eq] at h0; exact h0.2
  obtain ⟨a1, a2, a3, a4⟩ := ho g1
  have hf := facs_ok a1
  have f1 := hf.pe; have f2 := hf.pr; have f3 := hf.zo; have f4 := (headV_iff.1 hf.head).2.2.2.2.2.2.1
  have f5 := hf.all (v.zn.getD r.zo.toNat 0) (by simp [facsR])
  have hz := hz g1
  have hq := hq g1
  clear h h0 ho hf a3 a4
  have ew : IntKind.i64.wrap (v.zn.getD r.zo.toNat 0 + 7) = v.zn.getD r.zo.toNat 0 + 7 := wI (by omega)
  repeat' first
      | (first
          | refine TR.p hP (by first | fail) (by repeat' first | exact trivial | (intro _; assumption) | apply And.intro) ?_
          | refine TR.gp hP rfl (fun _ => by first | fail) (fun _ => by repeat' first | exact trivial | (intro _; assumption) | apply And.intro) ?_
          | refine TR.pv hP rfl (by first | fail) trivial (by repeat' first | exact trivial | (intro _; assumption) | apply And.intro) ?_
         try simp only [ew, Nat.not_lt_zero, ↓evSo_some, vcC_seq, vcC_reg, vcC_drw, vcC_skip, vcC_cond, vcC_block, vcC_exit, vcC_ret, vcC_bad, seqK_nrm, seqK_exit, seqK_ret, blkK_nrm, blkK_exit, blkK_ret, lopK_exit, lopK_ret, lopX_exit, lopX_ret, jmpK_nrm, jmpK_exit, jmpK_ret, nrmK_app, drwK_app, initE, vcR_nil, vcR_n, vcR_s, isCall, makes, hasU, slK, newOf, opR, binI, pickV, evS, evV, evX, evSs, evVs, evParts, evPartsS, fillV, catV, gOf, Go.Bx.get, Go.Bx.own?, cellsV, isCell, cut, cutD, nth, nthD, dropV, takeV, dropD, takeDV, putV, toDs, St.stp, Ef.stp, Stp.lg, lgs, setE, applyU, setO, delO, newN, keysO, callU, Ef.bad, Option.getD_some, Option.getD_none, Option.map_some, Option.map_none, List.all_cons, List.all_nil, List.map_cons, List.map_nil, List.append_nil, List.nil_append, List.cons_append, List.length_cons, List.length_nil, List.mem_cons, List.not_mem_nil, Bool.and_true, Bool.true_and, Bool.and_self, Bool.not_true, Bool.not_false, Bool.or_self, Bool.or_false, Bool.false_or, Bool.false_eq_true, Bool.true_eq_false, Bool.cond_true_left, Bool.cond_false_right, cond_true, cond_false, reduceCtorEq, ↓reduceIte, if_true, if_false, true_and, and_true, and_self, false_and, and_false, or_false, false_or, not_false_eq_true, not_true_eq_false, forall_const, true_implies, false_implies, implies_true, imp_self, eq_self, ne_eq, Nat.reduceAdd, Nat.reduceSub, Nat.reduceMul, Nat.reduceMod, Nat.reduceLeDiff, Nat.reduceEqDiff, Nat.zero_add, Nat.add_zero, Nat.le_refl, Nat.succ_ne_self, Nat.one_ne_zero, Nat.zero_ne_one, Int.toNat_natCast, litRow, List.drop_succ_cons, List.drop_zero, List.take_succ_cons, List.take_zero, pubE, pubV, pubL, pubO, pubFE, pubFV, pubFL, pubFO, delO, eqS, eqB, Nat.reduceLT, Nat.not_lt_zero, Nat.sub_zero, decide_true, decide_false, true_or, or_true, Int.le_refl, Int.cast_ofNat_Int, Int.reduceToNat, Int.reduceLT, Int.reduceLE, beq_self_eq_true, Nat.mul_one, Nat.one_mul, Nat.zero_mul])
      | refine And.intro (fun h => ?_) (fun h => ?_)
      | refine And.intro (by first | omega | (simp only [maxLen] at *; omega)) ?_
      | (refine TR.aslO rfl rfl rfl rfl trivial (Nat.le_of_ble_eq_true rfl) ?_
         try simp only [ew, Nat.not_lt_zero, ↓evSo_some, vcC_seq, vcC_reg, vcC_drw, vcC_skip, vcC_cond, vcC_block, vcC_exit, vcC_ret, vcC_bad, seqK_nrm, seqK_exit, seqK_ret, blkK_nrm, blkK_exit, blkK_ret, lopK_exit, lopK_ret, lopX_exit, lopX_ret, jmpK_nrm, jmpK_exit, jmpK_ret, nrmK_app, drwK_app, initE, vcR_nil, vcR_n, vcR_s, isCall, makes, hasU, slK, newOf, opR, binI, pickV, evS, evV, evX, evSs, evVs, evParts, evPartsS, fillV, catV, gOf, Go.Bx.get, Go.Bx.own?, cellsV, isCell, cut, cutD, nth, nthD, dropV, takeV, dropD, takeDV, putV, toDs, St.stp, Ef.stp, Stp.lg, lgs, setE, applyU, setO, delO, newN, keysO, callU, Ef.bad, Option.getD_some, Option.getD_none, Option.map_some, Option.map_none, List.all_cons, List.all_nil, List.map_cons, List.map_nil, List.append_nil, List.nil_append, List.cons_append, List.length_cons, List.length_nil, List.mem_cons, List.not_mem_nil, Bool.and_true, Bool.true_and, Bool.and_self, Bool.not_true, Bool.not_false, Bool.or_self, Bool.or_false, Bool.false_or, Bool.false_eq_true, Bool.true_eq_false, Bool.cond_true_left, Bool.cond_false_right, cond_true, cond_false, reduceCtorEq, ↓reduceIte, if_true, if_false, true_and, and_true, and_self, false_and, and_false, or_false, false_or, not_false_eq_true, not_true_eq_false, forall_const, true_implies, false_implies, implies_true, imp_self, eq_self, ne_eq, Nat.reduceAdd, Nat.reduceSub, Nat.reduceMul, Nat.reduceMod, Nat.reduceLeDiff, Nat.reduceEqDiff, Nat.zero_add, Nat.add_zero, Nat.le_refl, Nat.succ_ne_self, Nat.one_ne_zero, Nat.zero_ne_one, Int.toNat_natCast, litRow, List.drop_succ_cons, List.drop_zero, List.take_succ_cons, List.take_zero, pubE, pubV, pubL, pubO, pubFE, pubFV, pubFL, pubFO, delO, eqS, eqB, Nat.reduceLT, Nat.not_lt_zero, Nat.sub_zero, decide_true, decide_false, true_or, or_true, Int.le_refl, Int.cast_ofNat_Int, Int.reduceToNat, Int.reduceLT, Int.reduceLE, beq_self_eq_true, Nat.mul_one, Nat.one_mul, Nat.zero_mul])
      | refine And.intro trivial ?_
      | refine And.intro rfl ?_
      | fail
  have k5 : Ctr Try.prog 11 [.ag [.d (.int .i64 v.fr), .d (.int .i64 v.b0), .d (.int .i64 v.b1), .d (.int .i64 v.b2), .d (.int .i64 v.b3), .d (slB v.age), .d (.sl false 1 v.zn.length (fun i' => if i' = r.zo.toNat then putD [.int .i64 (v.zn.getD r.zo.toNat 0)] 0 [.int .i64 (min (IntKind.i64.wrap (v.zn.getD r.zo.toNat 0 + 7)) 100000)] else [.int .i64 (v.zn.getD i' 0)])), .d (slK .i64 v.pr), .d (.int .i64 v.mn)], vR r, vC w] []
      (.tup [.d (.int .i64 (oneR (withZ v r.zo.toNat (min (v.zn.getD r.zo.toNat 0 + 7) 100000)) r w).1), .d (.int .i64 (oneR (withZ v r.zo.toNat (min (v.zn.getD r.zo.toNat 0 + 7) 100000)) r w).2)]) [] [] := by
    rw [ew]
    exact (sOne (withZ v r.zo.toNat (min (v.zn.getD r.zo.toNat 0 + 7) 100000)) r w (short_withZ hv)).arg ⟨VLe.ags ⟨VLe.refl _, VLe.refl _, VLe.refl _, VLe.refl _, VLe.refl _, VLe.refl _, slK_set rfl (fun i hi => rfl), VLe.refl _, VLe.refl _, trivial⟩, VLe.refl _, VLe.refl _, trivial⟩
  have k6 : Ctr Try.prog 11 [.ag [.d (.int .i64 v.fr), .d (.int .i64 v.b0), .d (.int .i64 v.b1), .d (.int .i64 v.b2), .d (.int .i64 v.b3), .d (slB v.age), .d (slK .i64 v.zn), .d (.sl false 1 v.pr.length (fun i' => if i' = w.pe.toNat then putD [.int .i64 (v.pr.getD w.pe.toNat 0)] 0 [.int .i64 0] else [.int .i64 (v.pr.getD i' 0)])), .d (.int .i64 v.mn)], vR r, vC w] []
      (.tup [.d (.int .i64 v.mn), .d (.int .i64 0)]) [] [] := by
    have h := sOne (withP v w.pe.toNat 0) r w (short_withP hv)
    rw [hq.1] at h
    exact h.arg ⟨VLe.ags ⟨VLe.refl _, VLe.refl _, VLe.refl _, VLe.refl _, VLe.refl _, VLe.refl _, VLe.refl _, slK_set rfl (fun i hi => rfl), VLe.refl _, trivial⟩, VLe.refl _, VLe.refl _, trivial⟩
  have k8 : Ctr Try.prog 16 [.ag [.d (.int .i64 v.fr), .d (.int .i64 v.b0), .d (.int .i64 v.b1), .d (.int .i64 v.b2), .d (.int .i64 v.b3), .d (slB v.age), .d (slK .i64 v.zn), .d (.sl false 1 v.pr.length (fun i' => if i' = w.pe.toNat then putD [.int .i64 (v.pr.getD w.pe.toNat 0)] 0 [.int .i64 0] else [.int .i64 (v.pr.getD i' 0)])), .d (.int .i64 v.mn)]] []
      (.d (.bool true)) [] [] := by
    have h := rVersion (withP v w.pe.toNat 0) (short_withP hv)
    rw [hq.2] at h
    exact h.arg ⟨VLe.ags ⟨VLe.refl _, VLe.refl _, VLe.refl _, VLe.refl _, VLe.refl _, VLe.refl _, VLe.refl _, slK_set rfl (fun i hi => rfl), VLe.refl _, trivial⟩, trivial⟩
  generalize oneR (withZ v r.zo.toNat (min (v.zn.getD r.zo.toNat 0 + 7) 100000)) r w = o2 at k5 hz
  simp only [vR, vC, cR, cC, slB, slK] at k5 k6 k8
  refine TR.wk _ (Wk.pub 59 rfl) ?_
  refine TR.wk _ (Wk.pub 63 rfl) ?_
  simp only [delO, ↓reduceIte, eq_self, Nat.reduceEqDiff, pubE, pubV, pubL, pubO, delO]
  repeat' first
      | (first
          | refine TR.p hP (by first | exact k5 | exact k6 | exact k8 | exact lAlive) (by repeat' first | exact trivial | (intro _; assumption) | apply And.intro) ?_
          | refine TR.gp hP rfl (fun _ => by first | exact k5 | exact k6 | exact k8 | exact lAlive) (fun _ => by repeat' first | exact trivial | (intro _; assumption) | apply And.intro) ?_
          | refine TR.pv hP rfl (by first | exact k5 | exact k6 | exact k8 | exact lAlive) trivial (by repeat' first | exact trivial | (intro _; assumption) | apply And.intro) ?_
         try simp only [vcC_seq, vcC_reg, vcC_ret, seqK_nrm, nrmK_app, vcR_nil, vcR_n, vcR_s, isCall, makes, hasU, newOf, opR, binI, pickV, evS, evV, evX, gOf, Go.Bx.get, Go.Bx.own?, cut, nth, dropV, takeV, St.stp, Ef.stp, lgs, setE, applyU, newN, Option.getD_some, List.length_cons, List.length_nil, List.mem_cons, List.not_mem_nil, Bool.and_true, Bool.true_and, Bool.and_self, Bool.false_eq_true, Bool.cond_true_left, Bool.cond_false_right, cond_true, ↓reduceIte, true_and, and_true, and_self, or_false, not_false_eq_true, forall_const, implies_true, imp_self, eq_self, Nat.reduceAdd, Nat.reduceEqDiff, Nat.zero_add, Nat.le_refl, Nat.succ_ne_self, Nat.reduceLT, beq_self_eq_true])
      | refine And.intro (fun h => ?_) (fun h => ?_)
      | refine And.intro (by first | omega | (simp only [maxLen, decide_eq_true_eq, decide_eq_false_iff_not] at *; omega)) ?_
      | (refine TR.aslO rfl rfl rfl rfl trivial (Nat.le_of_ble_eq_true rfl) ?_
         try simp only [↓evSo_some, vcC_seq, vcC_reg, vcC_drw, vcC_skip, vcC_cond, vcC_block, vcC_exit, vcC_ret, vcC_bad, seqK_nrm, seqK_exit, seqK_ret, blkK_nrm, blkK_exit, blkK_ret, lopK_exit, lopK_ret, lopX_exit, lopX_ret, jmpK_nrm, jmpK_exit, jmpK_ret, nrmK_app, drwK_app, initE, vcR_nil, vcR_n, vcR_s, isCall, makes, hasU, slK, newOf, opR, binI, pickV, evS, evV, evX, evSs, evVs, evParts, evPartsS, fillV, catV, gOf, Go.Bx.get, Go.Bx.own?, cellsV, isCell, cut, cutD, nth, nthD, dropV, takeV, dropD, takeDV, putV, toDs, St.stp, Ef.stp, Stp.lg, lgs, setE, applyU, setO, delO, newN, keysO, callU, Ef.bad, Option.getD_some, Option.getD_none, Option.map_some, Option.map_none, List.all_cons, List.all_nil, List.map_cons, List.map_nil, List.append_nil, List.nil_append, List.cons_append, List.length_cons, List.length_nil, List.mem_cons, List.not_mem_nil, Bool.and_true, Bool.true_and, Bool.and_self, Bool.not_true, Bool.not_false, Bool.or_self, Bool.or_false, Bool.false_or, Bool.false_eq_true, Bool.true_eq_false, Bool.cond_true_left, Bool.cond_false_right, cond_true, cond_false, reduceCtorEq, ↓reduceIte, if_true, if_false, true_and, and_true, and_self, false_and, and_false, or_false, false_or, not_false_eq_true, not_true_eq_false, forall_const, true_implies, false_implies, implies_true, imp_self, eq_self, ne_eq, Nat.reduceAdd, Nat.reduceSub, Nat.reduceMul, Nat.reduceMod, Nat.reduceLeDiff, Nat.reduceEqDiff, Nat.zero_add, Nat.add_zero, Nat.le_refl, Nat.succ_ne_self, Nat.one_ne_zero, Nat.zero_ne_one, Int.toNat_natCast, litRow, List.drop_succ_cons, List.drop_zero, List.take_succ_cons, List.take_zero, pubE, pubV, pubL, pubO, pubFE, pubFV, pubFL, pubFO, delO, eqS, eqB, Nat.reduceLT, Nat.not_lt_zero, Nat.sub_zero, decide_true, decide_false, true_or, or_true, Int.le_refl, Int.cast_ofNat_Int, Int.reduceToNat, Int.reduceLT, Int.reduceLE, beq_self_eq_true, Nat.mul_one, Nat.one_mul, Nat.zero_mul])
      | refine And.intro trivial ?_
      | refine And.intro rfl ?_
      | fail
  exact RetK.pure (by simp only [rs7, ressS, resS, and_self]) (by (simp only [rs7, retV, resV, Go.Bx.get, ↓reduceIte, eq_self, VLe_bool, Go.Bx.get, ↓reduceIte, eq_self]) <;> (first | (by_cases g2 : o2.2 = 0 <;> simp [g2] <;> exact hz g2)))
end Go.Proofs.Ytkcfgdafhfllgaa
