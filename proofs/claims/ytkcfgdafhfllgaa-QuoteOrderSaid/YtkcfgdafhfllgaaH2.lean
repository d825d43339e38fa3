import Derived.Test.YtkcfgdafhfllgaaG
namespace Go.Proofs.Ytkcfgdafhfllgaa
open Go.Bx
set_option maxRecDepth 10000

theorem and_mask (x : Int) (j : Nat) (hj : j ≤ 20) : 0 ≤ IntKind.i64.wrap ((BitVec.ofInt IntKind.i64.bits x &&& BitVec.ofInt IntKind.i64.bits ((2 ^ j - 1 : Nat) : Int)).toNat : Int) ∧ IntKind.i64.wrap ((BitVec.ofInt IntKind.i64.bits x &&& BitVec.ofInt IntKind.i64.bits ((2 ^ j - 1 : Nat) : Int)).toNat : Int) ≤ 2 ^ j - 1 := by
  have hp : 2 ^ j ≤ 2 ^ 20 := Nat.pow_le_pow_right (by omega) hj
  have hpos : 0 < 2 ^ j := Nat.pow_pos (by omega)
  have h1 : (BitVec.ofInt IntKind.i64.bits x &&& BitVec.ofInt IntKind.i64.bits ((2 ^ j - 1 : Nat) : Int)).toNat ≤ 2 ^ j - 1 := by
    rw [BitVec.toNat_and]
    refine Nat.le_trans Nat.and_le_right ?_
    rw [BitVec.toNat_ofInt]
    have : ((2 ^ j - 1 : Nat) : Int) % ((2 ^ IntKind.i64.bits : Nat) : Int) = ((2 ^ j - 1 : Nat) : Int) := by
      have e : (2 ^ IntKind.i64.bits : Nat) = 18446744073709551616 := by decide +kernel
      rw [e]; omega
    rw [this]; omega
  rw [wI (by omega)]
  have : ((2 : Int) ^ j) = ((2 ^ j : Nat) : Int) := by simp
  rw [this]; omega
def and4095 (x : Int) : Int := IntKind.i64.wrap ((BitVec.ofInt IntKind.i64.bits x &&& BitVec.ofInt IntKind.i64.bits 4095).toNat : Int)
theorem and4095_le (x : Int) : 0 ≤ and4095 x ∧ and4095 x ≤ 4095 := and_mask x 12 (by omega)
def and7 (x : Int) : Int := IntKind.i64.wrap ((BitVec.ofInt IntKind.i64.bits x &&& BitVec.ofInt IntKind.i64.bits 7).toNat : Int)
set_option maxHeartbeats 2000000 in
theorem lMore (v : Vs) (r : Rk) (z0 z1 z2 : Int) (hv : ShortV v) (hz0 : I64 z0) (hz1 : I64 z1) (hr : I64 r.va) : Ctr Try.prog 6 [vV v, vR r, .ag [.d (.int .i64 z0), .d (.int .i64 z1), .d (.int .i64 z2)]] [] (.d (.bool true)) [] [] := by
  unfold I64 at hz0 hz1 hr
  have k0 := lFew0 v
  have k1 := lOf (and7 z2) (min (max z1 1) 5000)
  have a1 := and4095_le z1
  have ew : IntKind.i64.wrap (min (max z1 1) 5000 + and4095 z1) = min (max z1 1) 5000 + and4095 z1 := wI (by omega)
  have k2 := sOne v r ⟨and7 z2, 1000, 2000, 0, min (max z1 1) 5000⟩ hv
  have k3 := sOne v ⟨r.kd, max r.va z0, r.ag, r.zo⟩ ⟨and7 z2, 1000, 2000, 0, min (max z1 1) 5000⟩ hv
  have k4 := sOne v r ⟨and7 z2, 1000, 2000, 0, min (max z1 1) 5000 + and4095 z1⟩ hv
  have m1 := one_more_value (v := v) (r := r) (s := ⟨r.kd, max r.va z0, r.ag, r.zo⟩) (c := ⟨and7 z2, 1000, 2000, 0, min (max z1 1) 5000⟩) rfl rfl rfl (by simp only; omega)
  have m2 := one_more_share (v := v) (r := r) (c := ⟨and7 z2, 1000, 2000, 0, min (max z1 1) 5000⟩) (d := ⟨and7 z2, 1000, 2000, 0, min (max z1 1) 5000 + and4095 z1⟩) rfl (by simp only; omega)
  generalize oneR v r ⟨and7 z2, 1000, 2000, 0, min (max z1 1) 5000⟩ = o1 at k2 m1 m2
  generalize oneR v ⟨r.kd, max r.va z0, r.ag, r.zo⟩ ⟨and7 z2, 1000, 2000, 0, min (max z1 1) 5000⟩ = o2 at k3 m1
  generalize oneR v r ⟨and7 z2, 1000, 2000, 0, min (max z1 1) 5000 + and4095 z1⟩ = o3 at k4 m2
  rw [← ew] at k4
  simp only [vV, vR, vC, cV, cR, cC, slB, slK, ofC, and7, and4095] at k0 k1 k2 k3 k4
  refine pure6 (by simp) rfl rfl ?_; intro c hP hfn; simp only [c6, vV, cV, vR, cR, slB, slK, vcC_seq, vcC_reg, seqK_nrm, nrmK_app, initE, vcR_nil, vcR_n, isCall, makes, slK, newOf, opR, binI, evS, evV, evX, Go.Bx.get, Go.Bx.own?, cellsV, isCell, cut, nth, St.stp, Ef.stp, lgs, setE, applyU, setO, newN, Option.getD_some, List.all_cons, List.all_nil, List.length_cons, List.length_nil, List.mem_cons, List.not_mem_nil, Bool.and_self, Bool.false_eq_true, reduceCtorEq, ↓reduceIte, true_and, and_self, or_false, not_false_eq_true, eq_self, Nat.reduceAdd, Nat.reduceLeDiff, Nat.reduceEqDiff, Nat.zero_add, Nat.le_refl, Nat.succ_ne_self, Nat.zero_ne_one, Int.cast_ofNat_Int, Int.reduceToNat, Int.reduceLT, Int.reduceLE, Nat.mul_one]
  repeat' first
      | (first
          | refine TR.p hP (by first | exact k0 | exact k1 | exact k2 | exact k3 | exact k4 | exact lAlive) (by repeat' first | exact trivial | (intro _; assumption) | apply And.intro) ?_
          | refine TR.gp hP rfl (fun _ => by first | exact k0 | exact k1 | exact k2 | exact k3 | exact k4 | exact lAlive) (fun _ => by repeat' first | exact trivial | (intro _; assumption) | apply And.intro) ?_
          | refine TR.pv hP rfl (by first | exact k0 | exact k1 | exact k2 | exact k3 | exact k4 | exact lAlive) trivial (by repeat' first | exact trivial | (intro _; assumption) | apply And.intro) ?_
         try simp only [vcC_seq, vcC_reg, vcC_drw, vcC_skip, vcC_cond, vcC_ret, seqK_nrm, seqK_ret, nrmK_app, drwK_app, vcR_nil, vcR_n, vcR_s, isCall, makes, hasU, newOf, opR, binI, pickV, evS, evV, evX, gOf, Go.Bx.get, Go.Bx.own?, cellsV, isCell, cut, nth, dropV, takeV, putV, St.stp, Ef.stp, Stp.lg, lgs, setE, applyU, setO, newN, Option.getD_some, List.all_cons, List.all_nil, List.map_cons, List.map_nil, List.append_nil, List.nil_append, List.cons_append, List.length_cons, List.length_nil, List.mem_cons, List.not_mem_nil, Bool.true_and, Bool.and_self, Bool.false_eq_true, Bool.cond_true_left, Bool.cond_false_right, cond_true, ↓reduceIte, true_and, and_true, and_self, or_false, not_false_eq_true, forall_const, implies_true, imp_self, eq_self, Nat.reduceAdd, Nat.reduceLeDiff, Nat.reduceEqDiff, Nat.zero_add, Nat.add_zero, Nat.le_refl, Nat.succ_ne_self, Nat.reduceLT, or_true, Int.le_refl, Int.cast_ofNat_Int, Int.reduceToNat, Int.reduceLT, Int.reduceLE, Nat.mul_one])
      | refine And.intro (fun h => ?_) (fun h => ?_)
      | refine And.intro (by first | omega | (simp only [maxLen, decide_eq_true_eq, decide_eq_false_iff_not] at *; omega)) ?_
      | (refine TR.aslO rfl rfl rfl rfl trivial (Nat.le_of_ble_eq_true rfl) ?_
         try simp only [↓evSo_some, vcC_seq, vcC_reg, vcC_drw, vcC_skip, vcC_cond, vcC_block, vcC_exit, vcC_ret, vcC_bad, seqK_nrm, seqK_exit, seqK_ret, blkK_nrm, blkK_exit, blkK_ret, lopK_exit, lopK_ret, lopX_exit, lopX_ret, jmpK_nrm, jmpK_exit, jmpK_ret, nrmK_app, drwK_app, initE, vcR_nil, vcR_n, vcR_s, isCall, makes, hasU, slK, newOf, opR, binI, pickV, evS, evV, evX, evSs, evVs, evParts, evPartsS, fillV, catV, gOf, Go.Bx.get, Go.Bx.own?, cellsV, isCell, cut, cutD, nth, nthD, dropV, takeV, dropD, takeDV, putV, toDs, St.stp, Ef.stp, Stp.lg, lgs, setE, applyU, setO, delO, newN, keysO, callU, Ef.bad, Option.getD_some, Option.getD_none, Option.map_some, Option.map_none, List.all_cons, List.all_nil, List.map_cons, List.map_nil, List.append_nil, List.nil_append, List.cons_append, List.length_cons, List.length_nil, List.mem_cons, List.not_mem_nil, Bool.and_true, Bool.true_and, Bool.and_self, Bool.not_true, Bool.not_false, Bool.or_self, Bool.or_false, Bool.false_or, Bool.false_eq_true, Bool.true_eq_false, Bool.cond_true_left, Bool.cond_false_right, cond_true, cond_false, reduceCtorEq, ↓reduceIte, if_true, if_false, true_and, and_true, and_self, false_and, and_false, or_false, false_or, not_false_eq_true, not_true_eq_false, forall_const, true_implies, false_implies, implies_true, imp_self, eq_self, ne_eq, Nat.reduceAdd, Nat.reduceSub, Nat.reduceMul, Nat.reduceMod, Nat.reduceLeDiff, Nat.reduceEqDiff, Nat.zero_add, Nat.add_zero, Nat.le_refl, Nat.succ_ne_self, Nat.one_ne_zero, Nat.zero_ne_one, Int.toNat_natCast, litRow, List.drop_succ_cons, List.drop_zero, List.take_succ_cons, List.take_zero, pubE, pubV, pubL, pubO, pubFE, pubFV, pubFL, pubFO, delO, eqS, eqB, Nat.reduceLT, Nat.not_lt_zero, Nat.sub_zero, decide_true, decide_false, true_or, or_true, Int.le_refl, Int.cast_ofNat_Int, Int.reduceToNat, Int.reduceLT, Int.reduceLE, beq_self_eq_true, Nat.mul_one, Nat.one_mul, Nat.zero_mul])
      | refine And.intro trivial ?_
      | refine And.intro rfl ?_
      | fail
  · exact RetK.pure (by simp only [rs6, ressS, resS, and_self]) (by (simp only [rs6, retV, resV, Go.Bx.get, ↓reduceIte, eq_self, VLe_refl, Go.Bx.get, ↓reduceIte, eq_self]) <;> (first | simp))
  exact RetK.pure (by simp only [rs6, ressS, resS, and_self]) (by (simp only [rs6, retV, resV, Go.Bx.get, ↓reduceIte, eq_self, VLe_bool, Go.Bx.get, ↓reduceIte, eq_self]) <;> (first | (by_cases g1 : o1.2 = 0 <;> by_cases g2 : o2.2 = 0 <;> by_cases g3 : o3.2 = 0 <;> simp_all)))
set_option maxHeartbeats 2000000 in
theorem lOrder (v : Vs) (r : Rk) (l : List Cv) (hv : ShortV v) (hl : l.length ≤ 9223372036854775807) : Ctr Try.prog 8 [vV v, vR r, .d (slC l)] [] (.d (.bool true)) [] [] := by
  have k0 := lFew v l
  simp only [vV, cV, slB, slK, slC] at k0
  refine pure8 (by simp) rfl rfl ?_; intro c hP hfn; simp only [c8, vV, cV, vR, cR, slB, slK, slC, vcC_seq, vcC_reg, seqK_nrm, nrmK_app, initE, vcR_nil, vcR_n, isCall, makes, slK, newOf, opR, evS, evV, evX, Go.Bx.get, Go.Bx.own?, cellsV, isCell, cut, dropV, takeV, St.stp, Ef.stp, lgs, setE, applyU, setO, newN, Option.getD_some, List.all_cons, List.all_nil, List.length_cons, List.length_nil, List.mem_cons, List.not_mem_nil, Bool.and_self, Bool.false_eq_true, reduceCtorEq, ↓reduceIte, true_and, and_self, or_false, not_false_eq_true, eq_self, Nat.reduceAdd, Nat.reduceEqDiff, Nat.zero_add, Nat.le_refl, Nat.succ_ne_self, Nat.zero_ne_one]
  repeat' first
      | (first
          | refine TR.p hP (by first | exact k0 | exact lAlive) (by repeat' first | exact trivial | (intro _; assumption) | apply And.intro) ?_
          | refine TR.gp hP rfl (fun _ => by first | exact k0 | exact lAlive) (fun _ => by repeat' first | exact trivial | (intro _; assumption) | apply And.intro) ?_
          | refine TR.pv hP rfl (by first | exact k0 | exact lAlive) trivial (by repeat' first | exact trivial | (intro _; assumption) | apply And.intro) ?_
         try simp only [vcC_seq, vcC_reg, vcC_skip, vcC_cond, vcC_block, vcC_ret, seqK_nrm, seqK_ret, nrmK_app, vcR_nil, vcR_n, isCall, makes, newOf, opR, evS, evV, evX, Go.Bx.get, St.stp, Ef.stp, lgs, setE, applyU, newN, Bool.false_eq_true, reduceCtorEq, ↓reduceIte, true_and, eq_self, Nat.reduceEqDiff, Nat.succ_ne_self])
      | refine And.intro (fun h => ?_) (fun h => ?_)
      | refine And.intro (by first | omega | (simp only [maxLen, decide_eq_true_eq, decide_eq_false_iff_not] at *; omega)) ?_
      | (refine TR.aslO rfl rfl rfl rfl trivial (Nat.le_of_ble_eq_true rfl) ?_
         try simp only [↓evSo_some, vcC_seq, vcC_reg, vcC_drw, vcC_skip, vcC_cond, vcC_block, vcC_exit, vcC_ret, vcC_bad, seqK_nrm, seqK_exit, seqK_ret, blkK_nrm, blkK_exit, blkK_ret, lopK_exit, lopK_ret, lopX_exit, lopX_ret, jmpK_nrm, jmpK_exit, jmpK_ret, nrmK_app, drwK_app, initE, vcR_nil, vcR_n, vcR_s, isCall, makes, hasU, slK, newOf, opR, binI, pickV, evS, evV, evX, evSs, evVs, evParts, evPartsS, fillV, catV, gOf, Go.Bx.get, Go.Bx.own?, cellsV, isCell, cut, cutD, nth, nthD, dropV, takeV, dropD, takeDV, putV, toDs, St.stp, Ef.stp, Stp.lg, lgs, setE, applyU, setO, delO, newN, keysO, callU, Ef.bad, Option.getD_some, Option.getD_none, Option.map_some, Option.map_none, List.all_cons, List.all_nil, List.map_cons, List.map_nil, List.append_nil, List.nil_append, List.cons_append, List.length_cons, List.length_nil, List.mem_cons, List.not_mem_nil, Bool.and_true, Bool.true_and, Bool.and_self, Bool.not_true, Bool.not_false, Bool.or_self, Bool.or_false, Bool.false_or, Bool.false_eq_true, Bool.true_eq_false, Bool.cond_true_left, Bool.cond_false_right, cond_true, cond_false, reduceCtorEq, ↓reduceIte, if_true, if_false, true_and, and_true, and_self, false_and, and_false, or_false, false_or, not_false_eq_true, not_true_eq_false, forall_const, true_implies, false_implies, implies_true, imp_self, eq_self, ne_eq, Nat.reduceAdd, Nat.reduceSub, Nat.reduceMul, Nat.reduceMod, Nat.reduceLeDiff, Nat.reduceEqDiff, Nat.zero_add, Nat.add_zero, Nat.le_refl, Nat.succ_ne_self, Nat.one_ne_zero, Nat.zero_ne_one, Int.toNat_natCast, litRow, List.drop_succ_cons, List.drop_zero, List.take_succ_cons, List.take_zero, pubE, pubV, pubL, pubO, pubFE, pubFV, pubFL, pubFO, delO, eqS, eqB, Nat.reduceLT, Nat.not_lt_zero, Nat.sub_zero, decide_true, decide_false, true_or, or_true, Int.le_refl, Int.cast_ofNat_Int, Int.reduceToNat, Int.reduceLT, Int.reduceLE, beq_self_eq_true, Nat.mul_one, Nat.one_mul, Nat.zero_mul])
      | refine And.intro trivial ?_
      | refine And.intro rfl ?_
      | fail
  · exact RetK.pure (by simp only [rs8, ressS, resS, and_self]) (by (simp only [rs8, retV, resV, Go.Bx.get, ↓reduceIte, eq_self, VLe_refl, Go.Bx.get, ↓reduceIte, eq_self]) <;> (first | simp))
  have h50 : l.length ≤ 50 := by
    simp only [Bool.not_eq_false', fewQ, Bool.and_eq_true, decide_eq_true_eq] at h; omega
  refine vcC.loop (X := Nat) (fun k => ⟨[(7, .osl 1000), (2, .d (slC l)), (3, .own 3 0), (4, .own 4 0), (24, .d (.int .i64 l.length)), (25, .d (.int .i64 k))], [(1000, .row 30 5 (l.reverse.take k).length (fun i => [.int .i64 ((l.reverse.take k).getD i default).pe, .int .i64 ((l.reverse.take k).getD i default).li, .int .i64 ((l.reverse.take k).getD i default).ag, .int .i64 ((l.reverse.take k).getD i default).de, .int .i64 ((l.reverse.take k).getD i default).sh])), (3, .fix (cV v)), (4, .fix (cR r))], [1000, 3, 4]⟩)
    (fun k => k ≤ l.length) (fun k => l.length - k) 0 (Nat.zero_le _) ((Wk.row0 (s := 7) (k := 1000) (e := 30) (sz := 5) (f' := fun _ => []) rfl rfl (by simp)).trans (Wk.of _ hfn rfl (by (simp only [slC, EnvLe, VLe_refl, Go.Bx.get, reduceCtorEq, ↓reduceIte, and_self, eq_self, Nat.reduceEqDiff, Nat.succ_ne_self, Int.cast_ofNat_Int]) <;> (first | exact wS (by omega) | (rw [List.length_append]; exact wS (by omega)) | assumption)) (by simp only [cV, cR, slB, slK, OwnLe, OLe_refl, exists_eq_left', Option.some.injEq, slK, Go.Bx.own?, setO, List.length_nil, ↓reduceIte, and_true, and_self, eq_self, Nat.reduceEqDiff, List.take_zero]; exact OLe.row rfl (fun i hi => absurd hi (Nat.not_lt_zero i))))) ?_
  intro k hk
  simp only [cV, cR, slB, slK, slC, vcC_seq, vcC_reg, vcC_skip, vcC_cond, vcC_block, vcC_exit, seqK_nrm, seqK_exit, blkK_nrm, blkK_exit, lopK_exit, nrmK_app, vcR_nil, vcR_n, isCall, makes, slK, newOf, opR, binI, evS, evV, evX, evSs, evVs, catV, Go.Bx.get, Go.Bx.own?, cellsV, isCell, cut, cutD, dropV, takeV, dropD, takeDV, toDs, St.stp, Ef.stp, lgs, setE, applyU, setO, delO, newN, Option.getD_some, Option.map_some, List.all_cons, List.all_nil, List.append_nil, List.length_cons, List.length_nil, List.mem_cons, List.not_mem_nil, Bool.and_self, Bool.false_eq_true, ↓reduceIte, true_and, and_true, and_self, or_false, not_false_eq_true, forall_const, eq_self, Nat.reduceAdd, Nat.reduceEqDiff, Nat.zero_add, Nat.le_refl, Nat.succ_ne_self, litRow, delO, Nat.reduceLT]
  refine ⟨fun h1 => ?_, fun h1 => ?_⟩
  · have hlt : k < l.length := by have := of_decide_eq_true h1; omega
    have e1 : IntKind.i64.wrap ((l.length : Int) - 1) = ((l.length - 1 : Nat) : Int) := (wI (by omega)).trans (by omega)
    have e2 : IntKind.i64.wrap (((l.length - 1 : Nat) : Int) - (k : Int)) = ((l.length - 1 - k : Nat) : Int) := (wI (by omega)).trans (by omega)
    have ht : l.reverse.take (k + 1) = l.reverse.take k ++ [l.getD (l.length - 1 - k) default] := by
      rw [List.take_add_one, List.getElem?_reverse hlt]
      simp [List.getD_eq_getElem?_getD, show l.length - 1 - k < l.length by omega]
    have hlen : (l.reverse.take k).length = k := by simp; omega
    simp only [e1, e2, Int.toNat_natCast]
    repeat' first
        | (first
            | refine TR.p hP (by first | fail) (by repeat' first | exact trivial | (intro _; assumption) | apply And.intro) ?_
            | refine TR.gp hP rfl (fun _ => by first | fail) (fun _ => by repeat' first | exact trivial | (intro _; assumption) | apply And.intro) ?_
            | refine TR.pv hP rfl (by first | fail) trivial (by repeat' first | exact trivial | (intro _; assumption) | apply And.intro) ?_
           try simp only [e1, e2, ↓evSo_some, vcC_seq, vcC_reg, vcC_drw, vcC_skip, vcC_cond, vcC_block, vcC_exit, vcC_ret, vcC_bad, seqK_nrm, seqK_exit, seqK_ret, blkK_nrm, blkK_exit, blkK_ret, lopK_exit, lopK_ret, lopX_exit, lopX_ret, jmpK_nrm, jmpK_exit, jmpK_ret, nrmK_app, drwK_app, initE, vcR_nil, vcR_n, vcR_s, isCall, makes, hasU, slK, newOf, opR, binI, pickV, evS, evV, evX, evSs, evVs, evParts, evPartsS, fillV, catV, gOf, Go.Bx.get, Go.Bx.own?, cellsV, isCell, cut, cutD, nth, nthD, dropV, takeV, dropD, takeDV, putV, toDs, St.stp, Ef.stp, Stp.lg, lgs, setE, applyU, setO, delO, newN, keysO, callU, Ef.bad, Option.getD_some, Option.getD_none, Option.map_some, Option.map_none, List.all_cons, List.all_nil, List.map_cons, List.map_nil, List.append_nil, List.nil_append, List.cons_append, List.length_cons, List.length_nil, List.mem_cons, List.not_mem_nil, Bool.and_true, Bool.true_and, Bool.and_self, Bool.not_true, Bool.not_false, Bool.or_self, Bool.or_false, Bool.false_or, Bool.false_eq_true, Bool.true_eq_false, Bool.cond_true_left, Bool.cond_false_right, cond_true, cond_false, reduceCtorEq, ↓reduceIte, if_true, if_false, true_and, and_true, and_self, false_and, and_false, or_false, false_or, not_false_eq_true, not_true_eq_false, forall_const, true_implies, false_implies, implies_true, imp_self, eq_self, ne_eq, Nat.reduceAdd, Nat.reduceSub, Nat.reduceMul, Nat.reduceMod, Nat.reduceLeDiff, Nat.reduceEqDiff, Nat.zero_add, Nat.add_zero, Nat.le_refl, Nat.succ_ne_self, Nat.one_ne_zero, Nat.zero_ne_one, Int.toNat_natCast, litRow, List.drop_succ_cons, List.drop_zero, List.take_succ_cons, List.take_zero, pubE, pubV, pubL, pubO, pubFE, pubFV, pubFL, pubFO, delO, eqS, eqB, Nat.reduceLT, Nat.not_lt_zero, Nat.sub_zero, decide_true, decide_false, true_or, or_true, Int.le_refl, Int.cast_ofNat_Int, Int.reduceToNat, Int.reduceLT, Int.reduceLE, beq_self_eq_true, Nat.mul_one, Nat.one_mul, Nat.zero_mul])
        | refine And.intro (fun h => ?_) (fun h => ?_)
        | refine And.intro (by first | omega | (simp only [maxLen, decide_eq_true_eq] at *; omega)) ?_
        | (refine TR.aslO rfl rfl rfl rfl trivial (Nat.le_of_ble_eq_true rfl) ?_
           try simp only [e1, e2, ↓evSo_some, vcC_seq, vcC_reg, vcC_drw, vcC_skip, vcC_cond, vcC_block, vcC_exit, vcC_ret, vcC_bad, seqK_nrm, seqK_exit, seqK_ret, blkK_nrm, blkK_exit, blkK_ret, lopK_exit, lopK_ret, lopX_exit, lopX_ret, jmpK_nrm, jmpK_exit, jmpK_ret, nrmK_app, drwK_app, initE, vcR_nil, vcR_n, vcR_s, isCall, makes, hasU, slK, newOf, opR, binI, pickV, evS, evV, evX, evSs, evVs, evParts, evPartsS, fillV, catV, gOf, Go.Bx.get, Go.Bx.own?, cellsV, isCell, cut, cutD, nth, nthD, dropV, takeV, dropD, takeDV, putV, toDs, St.stp, Ef.stp, Stp.lg, lgs, setE, applyU, setO, delO, newN, keysO, callU, Ef.bad, Option.getD_some, Option.getD_none, Option.map_some, Option.map_none, List.all_cons, List.all_nil, List.map_cons, List.map_nil, List.append_nil, List.nil_append, List.cons_append, List.length_cons, List.length_nil, List.mem_cons, List.not_mem_nil, Bool.and_true, Bool.true_and, Bool.and_self, Bool.not_true, Bool.not_false, Bool.or_self, Bool.or_false, Bool.false_or, Bool.false_eq_true, Bool.true_eq_false, Bool.cond_true_left, Bool.cond_false_right, cond_true, cond_false, reduceCtorEq, ↓reduceIte, if_true, if_false, true_and, and_true, and_self, false_and, and_false, or_false, false_or, not_false_eq_true, not_true_eq_false, forall_const, true_implies, false_implies, implies_true, imp_self, eq_self, ne_eq, Nat.reduceAdd, Nat.reduceSub, Nat.reduceMul, Nat.reduceMod, Nat.reduceLeDiff, Nat.reduceEqDiff, Nat.zero_add, Nat.add_zero, Nat.le_refl, Nat.succ_ne_self, Nat.one_ne_zero, Nat.zero_ne_one, Int.toNat_natCast, litRow, List.drop_succ_cons, List.drop_zero, List.take_succ_cons, List.take_zero, pubE, pubV, pubL, pubO, pubFE, pubFV, pubFL, pubFO, delO, eqS, eqB, Nat.reduceLT, Nat.not_lt_zero, Nat.sub_zero, decide_true, decide_false, true_or, or_true, Int.le_refl, Int.cast_ofNat_Int, Int.reduceToNat, Int.reduceLT, Int.reduceLE, beq_self_eq_true, Nat.mul_one, Nat.one_mul, Nat.zero_mul])
        | refine And.intro trivial ?_
        | refine And.intro rfl ?_
        | fail
    refine lopK.on (k + 1) hlt (by omega) ?_
    simp only [ht]
    exact (Wk.snoc (k := 38) _ hfn rfl rfl rfl rfl (OLe.app1 (cells := fun n : Cv => [.int .i64 n.pe, .int .i64 n.li, .int .i64 n.ag, .int .i64 n.de, .int .i64 n.sh]) (fun i hi => by simp only [if_pos hi]) (by simp)) (by (simp only [EnvLe, VLe_refl, VLe_int, Go.Bx.get, ↓reduceIte, true_and, and_true, eq_self, Nat.reduceEqDiff, Nat.succ_ne_self]) <;> (first | exact wS (by omega) | (rw [List.length_append]; exact wS (by omega)) | assumption)) (by simp only [OwnLe, OLe_refl, exists_eq_left', Option.some.injEq, Go.Bx.own?, ↓reduceIte, and_self, eq_self, Nat.reduceEqDiff]) (by simp) (by simp only [EnvLe, VLe_refl, Go.Bx.get, ↓reduceIte, and_self, eq_self, Nat.reduceEqDiff]) (by simp only [OwnLe, OLe_refl, exists_eq_left', Option.some.injEq, Go.Bx.own?, setO, delO, ↓reduceIte, and_self, eq_self, Nat.reduceEqDiff, delO]))
  · have hkl : k = l.length := by have := of_decide_eq_false h1; omega
    subst hkl
    have hrl : l.reverse.take l.length = l.reverse := List.take_of_length_le (by simp)
    have e1 : IntKind.i64.wrap ((l.length : Int).tdiv 2) = ((l.length / 2 : Nat) : Int) := by
      rw [show (l.length : Int).tdiv 2 = ((l.length / 2 : Nat) : Int) from tdiv_nat l.length 2]; exact wI (by omega)
    have k1 := sYear v r l hv hl
    have k2 := sYear v r l.reverse hv (by simp; omega)
    have k3 : Ctr Try.prog 13 [vV v, vR r, .d (.sl false 5 (l.length / 2) (fun i => [.int .i64 (l.getD i default).pe, .int .i64 (l.getD i default).li, .int .i64 (l.getD i default).ag, .int .i64 (l.getD i default).de, .int .i64 (l.getD i default).sh]))] [] (.tup [.d (.int .i64 (yearR v r (l.take (l.length / 2))).1), .d (.int .i64 (yearR v r (l.take (l.length / 2))).2)]) [] [] :=
      (sYear v r (l.take (l.length / 2)) hv (by simp; omega)).arg ⟨VLe.refl _, VLe.refl _, VLe.sl (by simp; omega) (fun _ => rfl) (by simp) (fun i hi => by
        have : ∀ d, l.getD i d = (l.take (l.length / 2)).getD i d := fun d => by
          rw [List.getD_eq_getElem?_getD, List.getD_eq_getElem?_getD, List.getElem?_take, if_pos hi]
        rw [this]), trivial⟩
    have k4 : Ctr Try.prog 13 [vV v, vR r, .d (.sl false 5 (l.length - l.length / 2) (fun i => [.int .i64 (l.getD (l.length / 2 + i) default).pe, .int .i64 (l.getD (l.length / 2 + i) default).li, .int .i64 (l.getD (l.length / 2 + i) default).ag, .int .i64 (l.getD (l.length / 2 + i) default).de, .int .i64 (l.getD (l.length / 2 + i) default).sh]))] [] (.tup [.d (.int .i64 (yearR v r (l.drop (l.length / 2))).1), .d (.int .i64 (yearR v r (l.drop (l.length / 2))).2)]) [] [] :=
      (sYear v r (l.drop (l.length / 2)) hv (by simp; omega)).arg ⟨VLe.refl _, VLe.refl _, VLe.sl (by simp) (fun _ => rfl) (by simp) (fun i hi => by
        have : ∀ d, l.getD (l.length / 2 + i) d = (l.drop (l.length / 2)).getD i d := fun d => by
          rw [List.getD_eq_getElem?_getD, List.getD_eq_getElem?_getD, List.getElem?_drop]
        rw [this]), trivial⟩
    have hp := year_perm (v := v) (r := r) (l := l)
    have hc := year_cut (v := v) (r := r) (l := l) (l.length / 2)
    have he := year_err (v := v) (r := r) (l := l)
    have hf := year_err (v := v) (r := r) (l := l.reverse)
    have hlen : (l.length / 2 : Nat) ≤ l.length := by omega
    generalize yearR v r l = y1 at *
    generalize yearR v r l.reverse = y2 at *
    generalize yearR v r (l.take (l.length / 2)) = y3 at *
    generalize yearR v r (l.drop (l.length / 2)) = y4 at *
    simp only [hrl]
    refine TR.wk _ (Wk.pub 1000 rfl) ?_
    simp only [vV, vR, cV, cR, slB, slK, slC, slK, delO, ↓reduceIte, eq_self, pubE, pubV, pubL, pubO, delO] at k1 k2 k3 k4 ⊢
    repeat' first
        | (first
            | refine TR.p hP (by first | exact k1 | exact k2 | exact k3 | exact k4 | exact lAlive) (by repeat' first | exact trivial | (intro _; assumption) | apply And.intro) ?_
            | refine TR.gp hP rfl (fun _ => by first | exact k1 | exact k2 | exact k3 | exact k4 | exact lAlive) (fun _ => by repeat' first | exact trivial | (intro _; assumption) | apply And.intro) ?_
            | refine TR.pv hP rfl (by first | exact k1 | exact k2 | exact k3 | exact k4 | exact lAlive) trivial (by repeat' first | exact trivial | (intro _; assumption) | apply And.intro) ?_
           try simp only [e1, ↓evSo_some, vcC_seq, vcC_reg, vcC_drw, vcC_ret, seqK_nrm, nrmK_app, drwK_app, vcR_nil, vcR_n, vcR_s, isCall, makes, hasU, newOf, opR, binI, pickV, evS, evV, evX, gOf, Go.Bx.get, Go.Bx.own?, cut, nth, dropV, takeV, St.stp, Ef.stp, Stp.lg, lgs, setE, applyU, newN, Option.getD_some, Option.map_some, Option.map_none, List.map_nil, List.append_nil, List.nil_append, List.cons_append, List.length_cons, List.length_nil, List.mem_cons, List.not_mem_nil, Bool.true_and, Bool.and_self, Bool.false_eq_true, Bool.cond_true_left, Bool.cond_false_right, cond_true, ↓reduceIte, true_and, and_true, and_self, or_false, not_false_eq_true, forall_const, implies_true, imp_self, eq_self, ne_eq, Nat.reduceAdd, Nat.reduceEqDiff, Nat.zero_add, Nat.le_refl, Nat.succ_ne_self, Int.toNat_natCast, Nat.reduceLT])
        | refine And.intro (fun h => ?_) (fun h => ?_)
        | refine And.intro (by first | omega | (simp only [decide_eq_false_iff_not] at *; omega)) ?_
        | (refine TR.aslO rfl rfl rfl rfl trivial (Nat.le_of_ble_eq_true rfl) ?_
           try simp only [e1, ↓evSo_some, vcC_seq, vcC_reg, vcC_drw, vcC_skip, vcC_cond, vcC_block, vcC_exit, vcC_ret, vcC_bad, seqK_nrm, seqK_exit, seqK_ret, blkK_nrm, blkK_exit, blkK_ret, lopK_exit, lopK_ret, lopX_exit, lopX_ret, jmpK_nrm, jmpK_exit, jmpK_ret, nrmK_app, drwK_app, initE, vcR_nil, vcR_n, vcR_s, isCall, makes, hasU, slK, newOf, opR, binI, pickV, evS, evV, evX, evSs, evVs, evParts, evPartsS, fillV, catV, gOf, Go.Bx.get, Go.Bx.own?, cellsV, isCell, cut, cutD, nth, nthD, dropV, takeV, dropD, takeDV, putV, toDs, St.stp, Ef.stp, Stp.lg, lgs, setE, applyU, setO, delO, newN, keysO, callU, Ef.bad, Option.getD_some, Option.getD_none, Option.map_some, Option.map_none, List.all_cons, List.all_nil, List.map_cons, List.map_nil, List.append_nil, List.nil_append, List.cons_append, List.length_cons, List.length_nil, List.mem_cons, List.not_mem_nil, Bool.and_true, Bool.true_and, Bool.and_self, Bool.not_true, Bool.not_false, Bool.or_self, Bool.or_false, Bool.false_or, Bool.false_eq_true, Bool.true_eq_false, Bool.cond_true_left, Bool.cond_false_right, cond_true, cond_false, reduceCtorEq, ↓reduceIte, if_true, if_false, true_and, and_true, and_self, false_and, and_false, or_false, false_or, not_false_eq_true, not_true_eq_false, forall_const, true_implies, false_implies, implies_true, imp_self, eq_self, ne_eq, Nat.reduceAdd, Nat.reduceSub, Nat.reduceMul, Nat.reduceMod, Nat.reduceLeDiff, Nat.reduceEqDiff, Nat.zero_add, Nat.add_zero, Nat.le_refl, Nat.succ_ne_self, Nat.one_ne_zero, Nat.zero_ne_one, Int.toNat_natCast, litRow, List.drop_succ_cons, List.drop_zero, List.take_succ_cons, List.take_zero, pubE, pubV, pubL, pubO, pubFE, pubFV, pubFL, pubFO, delO, eqS, eqB, Nat.reduceLT, Nat.not_lt_zero, Nat.sub_zero, decide_true, decide_false, true_or, or_true, Int.le_refl, Int.cast_ofNat_Int, Int.reduceToNat, Int.reduceLT, Int.reduceLE, beq_self_eq_true, Nat.mul_one, Nat.one_mul, Nat.zero_mul])
        | refine And.intro trivial ?_
        | refine And.intro rfl ?_
        | fail
    by_cases g1 : y1.2 = 0
    · obtain ⟨g2, g3, g4, g5, g6, g7⟩ := hc g1
      have ew : IntKind.i64.wrap (y3.1 + y4.1) = y3.1 + y4.1 := wI (by omega)
      have e : y2 = y1 := hp.resolve_right (fun h => h.1 g1)
      subst e
      exact RetK.pure (by simp only [rs8, ressS, resS, Bool.true_and, Bool.and_self, and_self, beq_self_eq_true]) (by (simp only [rs8, retV, resV, Go.Bx.get, Bool.true_and, Bool.and_self, ↓reduceIte, eq_self, beq_self_eq_true, VLe_bool, Go.Bx.get, Bool.true_and, Bool.and_self, ↓reduceIte, eq_self, beq_self_eq_true]) <;> (first | simp [g1, g2, g3, ew, g4]))
    · have e : ¬ y2.2 = 0 := by
        rcases hp with e | ⟨-, e⟩
        · rw [e]; exact g1
        · exact e
      have b1 : (y1.2 == 0) = false := by simpa using g1
      have b2 : (y2.2 == 0) = false := by simpa using e
      exact RetK.pure (by simp only [rs8, ressS, resS, and_self]) (by (simp only [rs8, retV, resV, Go.Bx.get, ↓reduceIte, eq_self, VLe_bool, Go.Bx.get, ↓reduceIte, eq_self]) <;> (first | simp [b1, b2, g1, he g1, hf e]))
end Go.Proofs.Ytkcfgdafhfllgaa
