import Derived.Test.YthkfedghiklmeaaG
namespace Go.Proofs.Ythkfedghiklmeaa
open Go.Bx
set_option maxRecDepth 10000

set_option maxHeartbeats 2000000 in
theorem lWhole (amt f t n : Int) (hamt : I64 amt) (hn : I64 n) : Ctr Try.prog 5 [.d (.int .i64 amt), vS f t, .d (.int .i64 n)] [] (.d (.bool true)) [] [] := by
  have k0 := lAwake
  have k1 := sPlan amt f t n
  have hok := @planR_ok amt f t n
  have hbad := @planR_bad amt f t n
  generalize hpr : planR amt f t n = pr at k1 hok hbad
  simp only [vS, slL] at k1
  refine pure5 (by simp) rfl rfl ?_; intro c hP hfn; simp only [c5, vS, vcC_seq, vcC_reg, seqK_nrm, nrmK_app, initE, vcR_nil, vcR_n, isCall, makes, newOf, opR, evS, evV, evX, Go.Bx.get, cellsV, isCell, St.stp, Ef.stp, lgs, setE, applyU, setO, newN, Option.getD_some, List.all_cons, List.all_nil, List.not_mem_nil, Bool.and_self, Bool.false_eq_true, ↓reduceIte, true_and, and_self, not_false_eq_true, eq_self, Nat.reduceAdd, Nat.zero_add, Nat.zero_ne_one]
  repeat' first
      | (first
          | refine TR.p hP (by first | exact k0 | exact k1) (by repeat' first | exact trivial | (intro _; assumption) | apply And.intro) ?_
          | refine TR.gp hP rfl (fun _ => by first | exact k0 | exact k1) (fun _ => by repeat' first | exact trivial | (intro _; assumption) | apply And.intro) ?_
          | refine TR.pv hP rfl (by first | exact k0 | exact k1) trivial (by repeat' first | exact trivial | (intro _; assumption) | apply And.intro) ?_
         try simp only [vcC_seq, vcC_reg, vcC_skip, vcC_cond, vcC_ret, seqK_nrm, seqK_ret, nrmK_app, vcR_nil, vcR_n, vcR_s, isCall, makes, hasU, newOf, opR, binI, pickV, evS, evV, evX, gOf, Go.Bx.get, Go.Bx.own?, cut, nth, dropV, takeV, St.stp, Ef.stp, lgs, setE, applyU, newN, Option.getD_some, List.length_cons, List.length_nil, List.mem_cons, List.not_mem_nil, Bool.and_self, Bool.false_eq_true, cond_true, reduceCtorEq, ↓reduceIte, true_and, and_self, or_false, not_false_eq_true, forall_const, implies_true, eq_self, Nat.reduceAdd, Nat.reduceEqDiff, Nat.zero_add, Nat.le_refl, Nat.succ_ne_self, Nat.reduceLT])
      | refine And.intro (fun h => ?_) (fun h => ?_)
      | refine And.intro (by first | omega | (simp only [maxLen, decide_eq_true_eq, decide_eq_false_iff_not] at *; omega)) ?_
      | (refine TR.aslO rfl rfl rfl rfl trivial (Nat.le_of_ble_eq_true rfl) ?_
         try simp only [↓evSo_some, vcC_seq, vcC_reg, vcC_drw, vcC_skip, vcC_cond, vcC_block, vcC_exit, vcC_ret, vcC_bad, seqK_nrm, seqK_exit, seqK_ret, blkK_nrm, blkK_exit, blkK_ret, lopK_exit, lopK_ret, lopX_exit, lopX_ret, jmpK_nrm, jmpK_exit, jmpK_ret, nrmK_app, drwK_app, initE, vcR_nil, vcR_n, vcR_s, isCall, makes, hasU, slK, newOf, opR, binI, pickV, evS, evV, evX, evSs, evVs, evParts, evPartsS, fillV, catV, gOf, Go.Bx.get, Go.Bx.own?, cellsV, isCell, cut, cutD, nth, nthD, dropV, takeV, dropD, takeDV, putV, toDs, St.stp, Ef.stp, Stp.lg, lgs, setE, applyU, setO, delO, newN, keysO, callU, Ef.bad, Option.getD_some, Option.getD_none, Option.map_some, Option.map_none, List.all_cons, List.all_nil, List.map_cons, List.map_nil, List.append_nil, List.nil_append, List.cons_append, List.length_cons, List.length_nil, List.mem_cons, List.not_mem_nil, Bool.and_true, Bool.true_and, Bool.and_self, Bool.not_true, Bool.not_false, Bool.or_self, Bool.or_false, Bool.false_or, Bool.false_eq_true, Bool.true_eq_false, Bool.cond_true_left, Bool.cond_false_right, cond_true, cond_false, reduceCtorEq, ↓reduceIte, if_true, if_false, true_and, and_true, and_self, false_and, and_false, or_false, false_or, not_false_eq_true, not_true_eq_false, forall_const, true_implies, false_implies, implies_true, imp_self, eq_self, ne_eq, Nat.reduceAdd, Nat.reduceSub, Nat.reduceMul, Nat.reduceMod, Nat.reduceLeDiff, Nat.reduceEqDiff, Nat.zero_add, Nat.add_zero, Nat.le_refl, Nat.succ_ne_self, Nat.one_ne_zero, Nat.zero_ne_one, Int.toNat_natCast, litRow, List.drop_succ_cons, List.drop_zero, List.take_succ_cons, List.take_zero, pubE, pubV, pubL, pubO, pubFE, pubFV, pubFL, pubFO, delO, eqS, eqB, Nat.reduceLT, Nat.not_lt_zero, Nat.sub_zero, decide_true, decide_false, true_or, or_true, Int.le_refl, Int.cast_ofNat_Int, Int.reduceToNat, Int.reduceLT, Int.reduceLE, beq_self_eq_true, Nat.mul_one, Nat.one_mul, Nat.zero_mul])
      | refine And.intro trivial ?_
      | refine And.intro rfl ?_
      | fail
  · have h' : ¬ pr.2 = 0 := by simpa using h
    have := hbad h'
    exact RetK.pure (by simp only [rs5, ressS, resS, and_self]) (by (simp only [rs5, retV, resV, Go.Bx.get, ↓reduceIte, eq_self, VLe_bool, Go.Bx.get, ↓reduceIte, eq_self]) <;> (first | simp [this]))
  have h' : pr.2 = 0 := by simpa using h
  obtain ⟨hP', e, ha0, hn0, ha4, hm⟩ := hok h'
  clear h hbad hok
  obtain ⟨N, rfl⟩ : ∃ N : Nat, n = (N : Int) := ⟨n.toNat, by omega⟩
  obtain ⟨A, rfl⟩ : ∃ A : Nat, amt = (A : Int) := ⟨amt.toNat, by omega⟩
  simp only [Int.toNat_natCast] at hP' e
  have hN1 := hP'.n1
  have hN12 := hP'.n12
  obtain ⟨hR, hsA, hsP⟩ := hP'.right
  have hll := planL_len A f N
  have hdu := hP'.dues
  rw [e]
  have k2 := rSumB _ hR
  rw [hsA, hsP] at k2
  have k3 := sRight (planL A f N) (by omega)
  rw [rightB_iff.2 hR] at k3
  have k4 : ∀ i, i < N → Ctr Try.prog 22 [.d (.int .i64 f), .d (.int .i64 ((i * 12 / N : Nat) : Int))] [] (.tup [.d (.int .i64 (planB A f N i).du), .d (.int .i64 0)]) [] [] := fun i hi => by
    have hb : i * 12 / N ≤ i * 12 := Nat.div_le_self _ _
    have h := sShift f (i * 12 / N) (by omega)
    rw [hP'.ok i hi] at h
    exact h
  have hat := fun i (hi : i < N) => planL_at (a := A) (f := f) hi default
  generalize hL : planL A f N = L at *
  simp only [slL, hll] at k2 k3 ⊢
  repeat' first
      | (first
          | refine TR.p hP (by first | exact k2 | exact k3) (by repeat' first | exact trivial | (intro _; assumption) | apply And.intro) ?_
          | refine TR.gp hP rfl (fun _ => by first | exact k2 | exact k3) (fun _ => by repeat' first | exact trivial | (intro _; assumption) | apply And.intro) ?_
          | refine TR.pv hP rfl (by first | exact k2 | exact k3) trivial (by repeat' first | exact trivial | (intro _; assumption) | apply And.intro) ?_
         try simp only [vcC_seq, vcC_reg, vcC_skip, vcC_cond, vcC_block, vcC_ret, seqK_nrm, seqK_ret, nrmK_app, vcR_nil, vcR_n, vcR_s, isCall, makes, hasU, newOf, opR, binI, pickV, evS, evV, evX, gOf, Go.Bx.get, nth, St.stp, Ef.stp, lgs, setE, applyU, newN, Option.getD_some, List.length_cons, List.length_nil, List.mem_cons, List.not_mem_nil, Bool.and_true, Bool.true_and, Bool.not_true, Bool.false_eq_true, Bool.cond_true_left, Bool.cond_false_right, reduceCtorEq, ↓reduceIte, true_and, and_true, and_self, or_false, not_false_eq_true, forall_const, implies_true, imp_self, eq_self, Nat.reduceAdd, Nat.reduceEqDiff, Nat.zero_add, Nat.succ_ne_self, Nat.reduceLT])
      | refine And.intro (fun h => ?_) (fun h => ?_)
      | refine And.intro (by first | omega | (simp only [maxLen, decide_eq_true_eq, decide_eq_false_iff_not] at *; omega)) ?_
      | (refine TR.aslO rfl rfl rfl rfl trivial (Nat.le_of_ble_eq_true rfl) ?_
         try simp only [↓evSo_some, vcC_seq, vcC_reg, vcC_drw, vcC_skip, vcC_cond, vcC_block, vcC_exit, vcC_ret, vcC_bad, seqK_nrm, seqK_exit, seqK_ret, blkK_nrm, blkK_exit, blkK_ret, lopK_exit, lopK_ret, lopX_exit, lopX_ret, jmpK_nrm, jmpK_exit, jmpK_ret, nrmK_app, drwK_app, initE, vcR_nil, vcR_n, vcR_s, isCall, makes, hasU, slK, newOf, opR, binI, pickV, evS, evV, evX, evSs, evVs, evParts, evPartsS, fillV, catV, gOf, Go.Bx.get, Go.Bx.own?, cellsV, isCell, cut, cutD, nth, nthD, dropV, takeV, dropD, takeDV, putV, toDs, St.stp, Ef.stp, Stp.lg, lgs, setE, applyU, setO, delO, newN, keysO, callU, Ef.bad, Option.getD_some, Option.getD_none, Option.map_some, Option.map_none, List.all_cons, List.all_nil, List.map_cons, List.map_nil, List.append_nil, List.nil_append, List.cons_append, List.length_cons, List.length_nil, List.mem_cons, List.not_mem_nil, Bool.and_true, Bool.true_and, Bool.and_self, Bool.not_true, Bool.not_false, Bool.or_self, Bool.or_false, Bool.false_or, Bool.false_eq_true, Bool.true_eq_false, Bool.cond_true_left, Bool.cond_false_right, cond_true, cond_false, reduceCtorEq, ↓reduceIte, if_true, if_false, true_and, and_true, and_self, false_and, and_false, or_false, false_or, not_false_eq_true, not_true_eq_false, forall_const, true_implies, false_implies, implies_true, imp_self, eq_self, ne_eq, Nat.reduceAdd, Nat.reduceSub, Nat.reduceMul, Nat.reduceMod, Nat.reduceLeDiff, Nat.reduceEqDiff, Nat.zero_add, Nat.add_zero, Nat.le_refl, Nat.succ_ne_self, Nat.one_ne_zero, Nat.zero_ne_one, Int.toNat_natCast, litRow, List.drop_succ_cons, List.drop_zero, List.take_succ_cons, List.take_zero, pubE, pubV, pubL, pubO, pubFE, pubFV, pubFL, pubFO, delO, eqS, eqB, Nat.reduceLT, Nat.not_lt_zero, Nat.sub_zero, decide_true, decide_false, true_or, or_true, Int.le_refl, Int.cast_ofNat_Int, Int.reduceToNat, Int.reduceLT, Int.reduceLE, beq_self_eq_true, Nat.mul_one, Nat.one_mul, Nat.zero_mul])
      | refine And.intro trivial ?_
      | refine And.intro rfl ?_
      | fail
  · exfalso
    simp at h
    omega
  clear h
  refine vcC.loop (X := Nat) (fun i => ⟨[(0, .d (.int .i64 (A : Int))), (4, .own 4 0), (7, .d (.bool true)), (8, .d (.sl false 3 N (fun i => [.int .i64 (L.getD i default).du, .int .i64 (L.getD i default).am, .int .i64 (L.getD i default).pa]))), (12, .d (.int .i64 i))], [(4, .fix [.d (.int .i64 f), .d (.int .i64 t)])], [4]⟩)
    (fun i => i ≤ N) (fun i => N - i) 0 (Nat.zero_le _) (Wk.of [] hfn rfl (by simp only [EnvLe, VLe_refl, Go.Bx.get, reduceCtorEq, ↓reduceIte, and_self, eq_self, Nat.reduceEqDiff, Nat.succ_ne_self, Int.cast_ofNat_Int]) (by simp only [OwnLe, OLe_refl, exists_eq_left', Option.some.injEq, Go.Bx.own?, ↓reduceIte, and_self, eq_self])) ?_
  intro i hi
  simp only [vcC_seq, vcC_reg, vcC_drw, vcC_skip, vcC_cond, vcC_block, vcC_exit, vcC_ret, seqK_nrm, seqK_exit, blkK_exit, lopK_exit, nrmK_app, drwK_app, vcR_nil, vcR_n, vcR_s, isCall, makes, hasU, newOf, opR, binI, pickV, evS, evV, evX, gOf, Go.Bx.get, Go.Bx.own?, cut, cutD, nth, nthD, dropD, St.stp, Ef.stp, Stp.lg, lgs, setE, applyU, newN, Option.getD_some, List.map_nil, List.append_nil, List.nil_append, List.cons_append, List.length_cons, List.length_nil, List.mem_cons, List.not_mem_nil, Bool.and_self, Bool.false_eq_true, cond_true, reduceCtorEq, ↓reduceIte, true_and, and_true, and_self, or_false, not_false_eq_true, forall_const, implies_true, eq_self, ne_eq, Nat.reduceAdd, Nat.reduceLeDiff, Nat.reduceEqDiff, Nat.zero_add, Nat.add_zero, Nat.succ_ne_self, Int.le_refl, Int.reduceToNat]
  refine ⟨fun h1 => ?_, fun h1 => ?_⟩
  · have hlt : i < N := by have := of_decide_eq_true h1; omega
    have e1 : IntKind.i64.wrap ((i : Int) * 12) = ((i * 12 : Nat) : Int) := (wI (by omega)).trans (by omega)
    have hb : i * 12 / N ≤ i * 12 := Nat.div_le_self _ _
    have hq : A / N ≤ A := Nat.div_le_self _ _
    have hnr := part_near (a := A) (i := i) hN1
    have e3 : IntKind.i64.wrap ((i * 12 / N : Nat) : Int) = ((i * 12 / N : Nat) : Int) := wN (by omega)
    have e6 : IntKind.i64.wrap ((A / N : Nat) : Int) = ((A / N : Nat) : Int) := wN (Nat.le_trans hq (by omega))
    have e7 : IntKind.i64.wrap (((A / N : Nat) : Int) + 1) = ((A / N + 1 : Nat) : Int) := by
      have : ((A / N : Nat) : Int) + 1 = ((A / N + 1 : Nat) : Int) := rfl
      rw [this]; exact wN (by generalize A / N = q at *; omega)
    have e2 : (((i * 12 : Nat) : Int)).tdiv (N : Int) = ((i * 12 / N : Nat) : Int) := tdiv_nat _ _
    have e5 : ((A : Int)).tdiv (N : Int) = ((A / N : Nat) : Int) := tdiv_nat _ _
    have hg := hat i hlt
    simp only [e1, e2, e3]
    repeat' first
        | (first
            | refine TR.p hP (by first | exact k4 i hlt) (by repeat' first | exact trivial | (intro _; assumption) | apply And.intro) ?_
            | refine TR.gp hP rfl (fun _ => by first | exact k4 i hlt) (fun _ => by repeat' first | exact trivial | (intro _; assumption) | apply And.intro) ?_
            | refine TR.pv hP rfl (by first | exact k4 i hlt) trivial (by repeat' first | exact trivial | (intro _; assumption) | apply And.intro) ?_
           try simp only [e5, e6, e7, hg, vcC_seq, vcC_reg, vcC_drw, vcC_skip, vcC_cond, vcC_ret, seqK_nrm, seqK_ret, blkK_nrm, blkK_ret, lopK_ret, nrmK_app, drwK_app, vcR_nil, vcR_n, vcR_s, isCall, makes, hasU, newOf, opR, binI, pickV, evS, evV, evX, gOf, Go.Bx.get, cutD, nth, nthD, dropD, St.stp, Ef.stp, Stp.lg, lgs, setE, applyU, newN, Option.getD_some, List.map_nil, List.append_nil, List.nil_append, List.cons_append, List.length_cons, List.length_nil, List.mem_cons, List.not_mem_nil, Bool.true_and, Bool.false_eq_true, Bool.cond_true_left, reduceCtorEq, ↓reduceIte, true_and, and_true, and_self, or_false, not_false_eq_true, forall_const, implies_true, imp_self, eq_self, ne_eq, Nat.reduceAdd, Nat.reduceLeDiff, Nat.reduceEqDiff, Nat.zero_add, Nat.succ_ne_self, Int.toNat_natCast, Nat.reduceLT])
        | refine And.intro (fun h => ?_) (fun h => ?_)
        | refine And.intro (by first | omega | (simp only [decide_eq_true_eq] at *; omega)) ?_
        | (refine TR.aslO rfl rfl rfl rfl trivial (Nat.le_of_ble_eq_true rfl) ?_
           try simp only [e1, e2, e3, e5, e6, e7, hg, ↓evSo_some, vcC_seq, vcC_reg, vcC_drw, vcC_skip, vcC_cond, vcC_block, vcC_exit, vcC_ret, vcC_bad, seqK_nrm, seqK_exit, seqK_ret, blkK_nrm, blkK_exit, blkK_ret, lopK_exit, lopK_ret, lopX_exit, lopX_ret, jmpK_nrm, jmpK_exit, jmpK_ret, nrmK_app, drwK_app, initE, vcR_nil, vcR_n, vcR_s, isCall, makes, hasU, slK, newOf, opR, binI, pickV, evS, evV, evX, evSs, evVs, evParts, evPartsS, fillV, catV, gOf, Go.Bx.get, Go.Bx.own?, cellsV, isCell, cut, cutD, nth, nthD, dropV, takeV, dropD, takeDV, putV, toDs, St.stp, Ef.stp, Stp.lg, lgs, setE, applyU, setO, delO, newN, keysO, callU, Ef.bad, Option.getD_some, Option.getD_none, Option.map_some, Option.map_none, List.all_cons, List.all_nil, List.map_cons, List.map_nil, List.append_nil, List.nil_append, List.cons_append, List.length_cons, List.length_nil, List.mem_cons, List.not_mem_nil, Bool.and_true, Bool.true_and, Bool.and_self, Bool.not_true, Bool.not_false, Bool.or_self, Bool.or_false, Bool.false_or, Bool.false_eq_true, Bool.true_eq_false, Bool.cond_true_left, Bool.cond_false_right, cond_true, cond_false, reduceCtorEq, ↓reduceIte, if_true, if_false, true_and, and_true, and_self, false_and, and_false, or_false, false_or, not_false_eq_true, not_true_eq_false, forall_const, true_implies, false_implies, implies_true, imp_self, eq_self, ne_eq, Nat.reduceAdd, Nat.reduceSub, Nat.reduceMul, Nat.reduceMod, Nat.reduceLeDiff, Nat.reduceEqDiff, Nat.zero_add, Nat.add_zero, Nat.le_refl, Nat.succ_ne_self, Nat.one_ne_zero, Nat.zero_ne_one, Int.toNat_natCast, litRow, List.drop_succ_cons, List.drop_zero, List.take_succ_cons, List.take_zero, pubE, pubV, pubL, pubO, pubFE, pubFV, pubFL, pubFO, delO, eqS, eqB, Nat.reduceLT, Nat.not_lt_zero, Nat.sub_zero, decide_true, decide_false, true_or, or_true, Int.le_refl, Int.cast_ofNat_Int, Int.reduceToNat, Int.reduceLT, Int.reduceLE, beq_self_eq_true, Nat.mul_one, Nat.one_mul, Nat.zero_mul])
        | refine And.intro trivial ?_
        | refine And.intro rfl ?_
        | fail
    · exfalso
      simp only [planB, bne_self_eq_false, Bool.false_or, Bool.or_eq_true] at h
      have hq1 := hnr.1
      have hq2 := hnr.2
      clear hnr e1 e2 e3 e5 e6 e7 hg
      rcases h with h | h
      · have := Int.ofNat_lt.1 (of_decide_eq_true h); omega
      · have := Int.ofNat_lt.1 (of_decide_eq_true h); omega
    · exact lopK.on (i + 1) hlt (by omega) (Wk.of [] hfn rfl (by (simp only [EnvLe, VLe_refl, VLe_int, Go.Bx.get, reduceCtorEq, ↓reduceIte, true_and, and_true, eq_self, Nat.reduceEqDiff]) <;> (first | exact wS (by omega) | (rw [List.length_append]; exact wS (by omega)) | assumption)) (by simp only [OwnLe, OLe_refl, exists_eq_left', Option.some.injEq, Go.Bx.own?, ↓reduceIte, and_self, eq_self]))
  · have hkl : i = N := by have := of_decide_eq_false h1; omega
    have h0 := hat 0 hN1
    have hd0 : (planB A f N 0).du = f := by
      have h1 := (hdu.2.2 0 hN1).1
      rw [Nat.zero_mul, Nat.zero_div, shiftV_zero (by omega) (by omega)] at h1
      omega
    simp only [h0, hd0, beq_self_eq_true]
    repeat' first
        | (first
            | refine TR.p hP (by first | fail) (by repeat' first | exact trivial | (intro _; assumption) | apply And.intro) ?_
            | refine TR.gp hP rfl (fun _ => by first | fail) (fun _ => by repeat' first | exact trivial | (intro _; assumption) | apply And.intro) ?_
            | refine TR.pv hP rfl (by first | fail) trivial (by repeat' first | exact trivial | (intro _; assumption) | apply And.intro) ?_
           try simp only [h0, hd0, ↓evSo_some, vcC_seq, vcC_reg, vcC_drw, vcC_skip, vcC_cond, vcC_block, vcC_exit, vcC_ret, vcC_bad, seqK_nrm, seqK_exit, seqK_ret, blkK_nrm, blkK_exit, blkK_ret, lopK_exit, lopK_ret, lopX_exit, lopX_ret, jmpK_nrm, jmpK_exit, jmpK_ret, nrmK_app, drwK_app, initE, vcR_nil, vcR_n, vcR_s, isCall, makes, hasU, slK, newOf, opR, binI, pickV, evS, evV, evX, evSs, evVs, evParts, evPartsS, fillV, catV, gOf, Go.Bx.get, Go.Bx.own?, cellsV, isCell, cut, cutD, nth, nthD, dropV, takeV, dropD, takeDV, putV, toDs, St.stp, Ef.stp, Stp.lg, lgs, setE, applyU, setO, delO, newN, keysO, callU, Ef.bad, Option.getD_some, Option.getD_none, Option.map_some, Option.map_none, List.all_cons, List.all_nil, List.map_cons, List.map_nil, List.append_nil, List.nil_append, List.cons_append, List.length_cons, List.length_nil, List.mem_cons, List.not_mem_nil, Bool.and_true, Bool.true_and, Bool.and_self, Bool.not_true, Bool.not_false, Bool.or_self, Bool.or_false, Bool.false_or, Bool.false_eq_true, Bool.true_eq_false, Bool.cond_true_left, Bool.cond_false_right, cond_true, cond_false, reduceCtorEq, ↓reduceIte, if_true, if_false, true_and, and_true, and_self, false_and, and_false, or_false, false_or, not_false_eq_true, not_true_eq_false, forall_const, true_implies, false_implies, implies_true, imp_self, eq_self, ne_eq, Nat.reduceAdd, Nat.reduceSub, Nat.reduceMul, Nat.reduceMod, Nat.reduceLeDiff, Nat.reduceEqDiff, Nat.zero_add, Nat.add_zero, Nat.le_refl, Nat.succ_ne_self, Nat.one_ne_zero, Nat.zero_ne_one, Int.toNat_natCast, litRow, List.drop_succ_cons, List.drop_zero, List.take_succ_cons, List.take_zero, pubE, pubV, pubL, pubO, pubFE, pubFV, pubFL, pubFO, delO, eqS, eqB, Nat.reduceLT, Nat.not_lt_zero, Nat.sub_zero, decide_true, decide_false, true_or, or_true, Int.le_refl, Int.cast_ofNat_Int, Int.reduceToNat, Int.reduceLT, Int.reduceLE, beq_self_eq_true, Nat.mul_one, Nat.one_mul, Nat.zero_mul])
        | refine And.intro (fun h => ?_) (fun h => ?_)
        | refine And.intro (by first | omega | (simp only [decide_eq_false_iff_not] at *; omega)) ?_
        | (refine TR.aslO rfl rfl rfl rfl trivial (Nat.le_of_ble_eq_true rfl) ?_
           try simp only [h0, hd0, ↓evSo_some, vcC_seq, vcC_reg, vcC_drw, vcC_skip, vcC_cond, vcC_block, vcC_exit, vcC_ret, vcC_bad, seqK_nrm, seqK_exit, seqK_ret, blkK_nrm, blkK_exit, blkK_ret, lopK_exit, lopK_ret, lopX_exit, lopX_ret, jmpK_nrm, jmpK_exit, jmpK_ret, nrmK_app, drwK_app, initE, vcR_nil, vcR_n, vcR_s, isCall, makes, hasU, slK, newOf, opR, binI, pickV, evS, evV, evX, evSs, evVs, evParts, evPartsS, fillV, catV, gOf, Go.Bx.get, Go.Bx.own?, cellsV, isCell, cut, cutD, nth, nthD, dropV, takeV, dropD, takeDV, putV, toDs, St.stp, Ef.stp, Stp.lg, lgs, setE, applyU, setO, delO, newN, keysO, callU, Ef.bad, Option.getD_some, Option.getD_none, Option.map_some, Option.map_none, List.all_cons, List.all_nil, List.map_cons, List.map_nil, List.append_nil, List.nil_append, List.cons_append, List.length_cons, List.length_nil, List.mem_cons, List.not_mem_nil, Bool.and_true, Bool.true_and, Bool.and_self, Bool.not_true, Bool.not_false, Bool.or_self, Bool.or_false, Bool.false_or, Bool.false_eq_true, Bool.true_eq_false, Bool.cond_true_left, Bool.cond_false_right, cond_true, cond_false, reduceCtorEq, ↓reduceIte, if_true, if_false, true_and, and_true, and_self, false_and, and_false, or_false, false_or, not_false_eq_true, not_true_eq_false, forall_const, true_implies, false_implies, implies_true, imp_self, eq_self, ne_eq, Nat.reduceAdd, Nat.reduceSub, Nat.reduceMul, Nat.reduceMod, Nat.reduceLeDiff, Nat.reduceEqDiff, Nat.zero_add, Nat.add_zero, Nat.le_refl, Nat.succ_ne_self, Nat.one_ne_zero, Nat.zero_ne_one, Int.toNat_natCast, litRow, List.drop_succ_cons, List.drop_zero, List.take_succ_cons, List.take_zero, pubE, pubV, pubL, pubO, pubFE, pubFV, pubFL, pubFO, delO, eqS, eqB, Nat.reduceLT, Nat.not_lt_zero, Nat.sub_zero, decide_true, decide_false, true_or, or_true, Int.le_refl, Int.cast_ofNat_Int, Int.reduceToNat, Int.reduceLT, Int.reduceLE, beq_self_eq_true, Nat.mul_one, Nat.one_mul, Nat.zero_mul])
        | refine And.intro trivial ?_
        | refine And.intro rfl ?_
        | fail
    exact RetK.pure (by simp only [rs5, ressS, resS, and_self]) (by (simp only [rs5, retV, resV, Go.Bx.get, ↓reduceIte, eq_self, VLe_refl, Go.Bx.get, ↓reduceIte, eq_self]) <;> (first | simp))
end Go.Proofs.Ythkfedghiklmeaa
