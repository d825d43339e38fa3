import Derived.Test.YtolhfgjekomaaaaQ2
namespace Go.Proofs.Ytolhfgjekomaaaa
open Go.Bx
set_option maxRecDepth 10000

theorem g8 (t : Tr) (x : Ls) (hp : x.per ≤ 9223372036854775807) : Ctr Try.prog 8 [vT t, vX x] [] (.d (.bool true)) [] [] := by
  refine pure8 (by simp) rfl rfl ?_; intro c hP hfn; simp only [c8, vT, vX, cT, cX', vcC_seq, vcC_reg, vcC_drw, seqK_nrm, nrmK_app, initE, vcR_nil, vcR_n, isCall, makes, newOf, opR, evS, evV, evX, Go.Bx.get, cellsV, isCell, St.stp, Ef.stp, lgs, setE, applyU, setO, newN, Option.getD_some, List.all_cons, List.all_nil, List.mem_cons, List.not_mem_nil, Bool.and_self, Bool.false_eq_true, ↓reduceIte, true_and, and_self, or_false, not_false_eq_true, eq_self, Nat.reduceEqDiff, Nat.zero_add, Nat.succ_ne_self, Nat.zero_ne_one]
  repeat' first
      | (first
          | refine TR.p hP (by first | exact q25 | exact s26 t | exact s27 t | exact s28 x | exact s29 x | exact s23 t x | exact s30 t x hp) (by repeat' first | exact trivial | (intro _; assumption) | apply And.intro) ?_
          | refine TR.gp hP rfl (fun _ => by first | exact q25 | exact s26 t | exact s27 t | exact s28 x | exact s29 x | exact s23 t x | exact s30 t x hp) (fun _ => by repeat' first | exact trivial | (intro _; assumption) | apply And.intro) ?_
          | refine TR.pv hP rfl (by first | exact q25 | exact s26 t | exact s27 t | exact s28 x | exact s29 x | exact s23 t x | exact s30 t x hp) trivial (by repeat' first | exact trivial | (intro _; assumption) | apply And.intro) ?_
         try simp only [vcC_ret, seqK_nrm, drwK_app, vcR_nil, vcR_n, vcR_s, isCall, makes, hasU, newOf, opR, pickV, evS, evV, evX, gOf, Go.Bx.get, Go.Bx.own?, cut, dropV, takeV, St.stp, Ef.stp, Stp.lg, lgs, setE, applyU, newN, Option.getD_some, List.map_nil, List.append_nil, List.nil_append, List.cons_append, List.length_cons, List.length_nil, List.mem_cons, List.not_mem_nil, Bool.and_self, Bool.false_eq_true, cond_true, ↓reduceIte, true_and, and_self, or_false, not_false_eq_true, forall_const, implies_true, eq_self, Nat.reduceAdd, Nat.reduceEqDiff, Nat.zero_add, Nat.le_refl, Nat.succ_ne_self, beq_self_eq_true])
      | refine And.intro (fun h => ?_) (fun h => ?_)
      | refine And.intro (by first | omega | (simp only [maxLen, decide_eq_true_eq, decide_eq_false_iff_not] at *; omega)) ?_
      | refine And.intro rfl ?_
      | fail
  all_goals exact RetK.pure (by simp only [rs8, ressS, resS, and_self]) (by (simp only [rs8, retV, resV, Go.Bx.get, ↓reduceIte, eq_self, VLe_refl, Go.Bx.get, ↓reduceIte, eq_self]) <;> (first | simp))
theorem g9 (t : Tr) (x : Ls) (hp : x.per ≤ 9223372036854775807) : Ctr Try.prog 9 [vT t, vX x] [] (.d (.bool true)) [] [] := by
  refine pure9 (by simp) rfl rfl ?_; intro c hP hfn; simp only [c9, vT, vX, cT, cX', vcC_seq, vcC_reg, seqK_nrm, nrmK_app, initE, vcR_nil, vcR_n, isCall, makes, newOf, opR, evS, evV, evX, Go.Bx.get, Go.Bx.own?, cellsV, isCell, cut, dropV, takeV, St.stp, Ef.stp, lgs, setE, applyU, setO, newN, Option.getD_some, List.all_cons, List.all_nil, List.length_cons, List.length_nil, List.mem_cons, List.not_mem_nil, Bool.and_self, Bool.false_eq_true, ↓reduceIte, true_and, and_self, or_false, not_false_eq_true, eq_self, Nat.reduceAdd, Nat.reduceEqDiff, Nat.zero_add, Nat.le_refl, Nat.succ_ne_self, Nat.zero_ne_one]
  repeat' first
      | (first
          | refine TR.p hP (by first | exact q25 | exact q31 t x | exact q32 t x hp) (by repeat' first | exact trivial | (intro _; assumption) | apply And.intro) ?_
          | refine TR.gp hP rfl (fun _ => by first | exact q25 | exact q31 t x | exact q32 t x hp) (fun _ => by repeat' first | exact trivial | (intro _; assumption) | apply And.intro) ?_
          | refine TR.pv hP rfl (by first | exact q25 | exact q31 t x | exact q32 t x hp) trivial (by repeat' first | exact trivial | (intro _; assumption) | apply And.intro) ?_
         try simp only [vcC_seq, vcC_reg, vcC_ret, seqK_nrm, nrmK_app, vcR_nil, vcR_n, vcR_s, isCall, makes, hasU, newOf, opR, binI, pickV, evS, evV, evX, gOf, Go.Bx.get, Go.Bx.own?, cut, nth, dropV, takeV, St.stp, Ef.stp, lgs, setE, applyU, newN, Option.getD_some, List.length_cons, List.length_nil, List.mem_cons, List.not_mem_nil, Bool.and_self, Bool.false_eq_true, cond_true, ↓reduceIte, true_and, and_self, or_false, not_false_eq_true, forall_const, implies_true, eq_self, Nat.reduceAdd, Nat.reduceEqDiff, Nat.zero_add, Nat.le_refl, Nat.succ_ne_self, Nat.reduceLT, beq_self_eq_true])
      | refine And.intro (fun h => ?_) (fun h => ?_)
      | refine And.intro (by first | omega | (simp only [maxLen, decide_eq_true_eq, decide_eq_false_iff_not] at *; omega)) ?_
      | refine And.intro rfl ?_
      | fail
  all_goals exact RetK.pure (by simp only [rs9, ressS, resS, and_self]) (by (simp only [rs9, retV, resV, Go.Bx.get, ↓reduceIte, eq_self, VLe_refl, Go.Bx.get, ↓reduceIte, eq_self]) <;> (first | simp))
theorem g10 (ts : List Tr) (x : Ls) (hp : x.per ≤ 9223372036854775807) : Ctr Try.prog 10 [.d (slT ts), vX x] [] (.d (.bool true)) [] [] := by
  refine pure10 (by simp) rfl rfl ?_; intro c hP hfn; simp only [c10, slT, vX, cX', vcC_seq, vcC_reg, vcC_skip, vcC_cond, seqK_nrm, nrmK_app, initE, vcR_nil, vcR_n, isCall, makes, newOf, opR, binI, evS, evV, evX, Go.Bx.get, Go.Bx.own?, cellsV, isCell, cut, dropV, takeV, St.stp, Ef.stp, lgs, setE, applyU, setO, newN, Option.getD_some, List.all_cons, List.all_nil, List.length_cons, List.length_nil, List.not_mem_nil, Bool.and_self, Bool.false_eq_true, reduceCtorEq, ↓reduceIte, true_and, and_self, not_false_eq_true, eq_self, Nat.reduceAdd, Nat.reduceEqDiff, Nat.zero_add, Nat.le_refl, Nat.succ_ne_self, Nat.zero_ne_one]
  refine ⟨fun h => ?_, fun h => ?_⟩
  · repeat' first
        | (first
            | refine TR.p hP (by first | exact q25) (by repeat' first | exact trivial | (intro _; assumption) | apply And.intro) ?_
            | refine TR.gp hP rfl (fun _ => by first | exact q25) (fun _ => by repeat' first | exact trivial | (intro _; assumption) | apply And.intro) ?_
            | refine TR.pv hP rfl (by first | exact q25) trivial (by repeat' first | exact trivial | (intro _; assumption) | apply And.intro) ?_
           try simp only [vcC_ret, seqK_nrm, seqK_ret, nrmK_app, vcR_nil, vcR_n, isCall, makes, newOf, opR, evS, evV, evX, Go.Bx.get, St.stp, Ef.stp, lgs, setE, applyU, newN, Bool.false_eq_true, ↓reduceIte, true_and, eq_self])
        | refine And.intro (fun h => ?_) (fun h => ?_)
        | refine And.intro (by first | omega | (simp only [maxLen, decide_eq_true_eq, decide_eq_false_iff_not] at *; omega)) ?_
        | refine And.intro rfl ?_
        | fail
    all_goals exact RetK.pure (by simp only [rs10, ressS, resS, and_self]) (by (simp only [rs10, retV, resV, Go.Bx.get, ↓reduceIte, eq_self, VLe_refl, Go.Bx.get, ↓reduceIte, eq_self]) <;> (first | simp))
  have hl : ts.length ≤ 100 := by have := of_decide_eq_false h; omega
  repeat' first
      | (first
          | refine TR.p hP (by first | exact q25 | exact q33 ts x (by omega) | exact q34 ts x (by omega) hp) (by repeat' first | exact trivial | (intro _; assumption) | apply And.intro) ?_
          | refine TR.gp hP rfl (fun _ => by first | exact q25 | exact q33 ts x (by omega) | exact q34 ts x (by omega) hp) (fun _ => by repeat' first | exact trivial | (intro _; assumption) | apply And.intro) ?_
          | refine TR.pv hP rfl (by first | exact q25 | exact q33 ts x (by omega) | exact q34 ts x (by omega) hp) trivial (by repeat' first | exact trivial | (intro _; assumption) | apply And.intro) ?_
         try simp only [vcC_seq, vcC_reg, vcC_ret, seqK_nrm, nrmK_app, vcR_nil, vcR_n, vcR_s, isCall, makes, hasU, newOf, opR, binI, pickV, evS, evV, evX, gOf, Go.Bx.get, Go.Bx.own?, cut, nth, dropV, takeV, St.stp, Ef.stp, lgs, setE, applyU, newN, Option.getD_some, List.length_cons, List.length_nil, List.mem_cons, List.not_mem_nil, Bool.and_self, Bool.false_eq_true, cond_true, reduceCtorEq, ↓reduceIte, true_and, and_self, or_false, not_false_eq_true, forall_const, implies_true, eq_self, Nat.reduceAdd, Nat.reduceEqDiff, Nat.zero_add, Nat.le_refl, Nat.succ_ne_self, Nat.reduceLT, beq_self_eq_true])
      | refine And.intro (fun h => ?_) (fun h => ?_)
      | refine And.intro (by first | omega | (simp only [maxLen, decide_eq_true_eq, decide_eq_false_iff_not] at *; omega)) ?_
      | refine And.intro rfl ?_
      | fail
  all_goals exact RetK.pure (by simp only [rs10, ressS, resS, and_self]) (by (simp only [rs10, retV, resV, Go.Bx.get, ↓reduceIte, eq_self, VLe_refl, Go.Bx.get, ↓reduceIte, eq_self]) <;> (first | simp))
theorem full_bears {t : Tr} {x : Ls} (hk : t.kind = 1) (ht : takesT t x = true) : bearsQ { t with bp := 10000 } x = (x.amt, true) := by
  have hm := bears_m hk ht
  have ha := (lossX_iff.1 (takes_right ht).2).2.2.2.2
  have hr := (takes_right ht).1
  have hr2 : rightT { t with bp := 10000 } = true := by
    unfold rightT at hr ⊢
    simp only [hk, if_true, Bool.and_eq_true] at hr ⊢
    exact ⟨hr.1, by decide, hr.2.2⟩
  have ht2 : takesT { t with bp := 10000 } x = true := by
    unfold takesT at ht ⊢
    rw [hr] at ht
    simp only [hr2]
    exact ht
  rw [bearsQ_eq, if_pos ⟨hk, ht2⟩, mQ]
  simp only
  rw [show ((10000 : Int)).toNat = 10000 from rfl, he_full]
  rw [Int.toNat_of_nonneg (by omega)]
theorem g11 (t : Tr) (x : Ls) : Ctr Try.prog 11 [vT t, vX x] [] (.d (.bool true)) [] [] := by
  have c1 := q31 t x
  have c2 := q31 { t with bp := 10000 } x
  have e := bearsQ_eq t x
  by_cases hq : t.kind = 1 ∧ takesT t x = true
  · rw [if_pos hq] at e
    rw [e] at c1
    rw [full_bears hq.1 hq.2] at c2
    have hm := bears_m hq.1 hq.2
    have d1 : decide (mQ t x ≥ 0) = true := decide_eq_true (by omega)
    have d2 : decide (mQ t x ≤ x.amt) = true := decide_eq_true (by omega)
    simp only [vT, vX, cT, cX'] at c1 c2
    refine pure11 (by simp) rfl rfl ?_; intro c hP hfn; simp only [c11, vT, vX, cT, cX', vcC_seq, vcC_reg, seqK_nrm, nrmK_app, initE, vcR_nil, vcR_n, isCall, makes, newOf, opR, evS, evV, evX, Go.Bx.get, Go.Bx.own?, cellsV, isCell, cut, dropV, takeV, St.stp, Ef.stp, lgs, setE, applyU, setO, newN, Option.getD_some, List.all_cons, List.all_nil, List.length_cons, List.length_nil, List.mem_cons, List.not_mem_nil, Bool.and_self, Bool.false_eq_true, ↓reduceIte, true_and, and_self, or_false, not_false_eq_true, eq_self, Nat.reduceAdd, Nat.reduceEqDiff, Nat.zero_add, Nat.le_refl, Nat.succ_ne_self, Nat.zero_ne_one]
    repeat' first
        | (first
            | refine TR.p hP (by first | exact q25 | exact c1 | exact c2) (by repeat' first | exact trivial | (intro _; assumption) | apply And.intro) ?_
            | refine TR.gp hP rfl (fun _ => by first | exact q25 | exact c1 | exact c2) (fun _ => by repeat' first | exact trivial | (intro _; assumption) | apply And.intro) ?_
            | refine TR.pv hP rfl (by first | exact q25 | exact c1 | exact c2) trivial (by repeat' first | exact trivial | (intro _; assumption) | apply And.intro) ?_
           try simp only [d1, d2, vcC_seq, vcC_reg, vcC_skip, vcC_cond, vcC_ret, seqK_nrm, nrmK_app, vcR_nil, vcR_n, vcR_s, isCall, makes, hasU, newOf, opR, binI, pickV, evS, evV, evX, gOf, Go.Bx.get, Go.Bx.own?, cellsV, isCell, cut, nth, dropV, takeV, putV, St.stp, Ef.stp, lgs, setE, applyU, setO, newN, Option.getD_some, List.all_cons, List.all_nil, List.length_cons, List.length_nil, List.mem_cons, List.not_mem_nil, Bool.and_self, Bool.not_true, Bool.false_eq_true, cond_true, ↓reduceIte, true_and, and_self, or_false, not_false_eq_true, forall_const, false_implies, implies_true, eq_self, Nat.reduceAdd, Nat.reduceLeDiff, Nat.reduceEqDiff, Nat.zero_add, Nat.le_refl, Nat.succ_ne_self, Nat.reduceLT, beq_self_eq_true])
        | refine And.intro (fun h => ?_) (fun h => ?_)
        | refine And.intro (by first | omega | (simp only [maxLen, decide_eq_true_eq, decide_eq_false_iff_not] at *; omega)) ?_
        | refine And.intro rfl ?_
        | fail
    all_goals exact RetK.pure (by simp only [rs11, ressS, resS, and_self]) (by (simp only [rs11, retV, resV, Go.Bx.get, ↓reduceIte, eq_self, VLe_refl, Go.Bx.get, ↓reduceIte, eq_self]) <;> (first | simp))
  · rw [if_neg hq] at e
    rw [e] at c1
    simp only [vT, vX, cT, cX'] at c1
    refine pure11 (by simp) rfl rfl ?_; intro c hP hfn; simp only [c11, vT, vX, cT, cX', vcC_seq, vcC_reg, seqK_nrm, nrmK_app, initE, vcR_nil, vcR_n, isCall, makes, newOf, opR, evS, evV, evX, Go.Bx.get, Go.Bx.own?, cellsV, isCell, cut, dropV, takeV, St.stp, Ef.stp, lgs, setE, applyU, setO, newN, Option.getD_some, List.all_cons, List.all_nil, List.length_cons, List.length_nil, List.mem_cons, List.not_mem_nil, Bool.and_self, Bool.false_eq_true, ↓reduceIte, true_and, and_self, or_false, not_false_eq_true, eq_self, Nat.reduceAdd, Nat.reduceEqDiff, Nat.zero_add, Nat.le_refl, Nat.succ_ne_self, Nat.zero_ne_one]
    repeat' first
        | (first
            | refine TR.p hP (by first | exact q25 | exact c1) (by repeat' first | exact trivial | (intro _; assumption) | apply And.intro) ?_
            | refine TR.gp hP rfl (fun _ => by first | exact q25 | exact c1) (fun _ => by repeat' first | exact trivial | (intro _; assumption) | apply And.intro) ?_
            | refine TR.pv hP rfl (by first | exact q25 | exact c1) trivial (by repeat' first | exact trivial | (intro _; assumption) | apply And.intro) ?_
           try simp only [vcC_seq, vcC_reg, vcC_skip, vcC_cond, vcC_ret, seqK_nrm, seqK_ret, nrmK_app, vcR_nil, vcR_n, vcR_s, isCall, makes, hasU, newOf, opR, binI, pickV, evS, evV, evX, gOf, Go.Bx.get, Go.Bx.own?, cellsV, isCell, cut, nth, dropV, takeV, putV, St.stp, Ef.stp, lgs, setE, applyU, setO, newN, Option.getD_some, List.all_cons, List.all_nil, List.length_cons, List.length_nil, List.mem_cons, List.not_mem_nil, Bool.and_self, Bool.not_false, Bool.false_eq_true, Bool.true_eq_false, cond_true, ↓reduceIte, true_and, and_true, and_self, or_false, not_false_eq_true, forall_const, false_implies, implies_true, eq_self, Nat.reduceAdd, Nat.reduceLeDiff, Nat.reduceEqDiff, Nat.zero_add, Nat.le_refl, Nat.succ_ne_self, Nat.reduceLT, beq_self_eq_true])
        | refine And.intro (fun h => ?_) (fun h => ?_)
        | refine And.intro (by first | omega | (simp only [maxLen, decide_eq_true_eq, decide_eq_false_iff_not] at *; omega)) ?_
        | refine And.intro rfl ?_
        | fail
    all_goals exact RetK.pure (by simp only [rs11, ressS, resS, and_self]) (by (simp only [rs11, retV, resV, Go.Bx.get, ↓reduceIte, eq_self, VLe_refl, Go.Bx.get, ↓reduceIte, eq_self]) <;> (first | simp))
theorem he_monob {x b c : Nat} (h : b ≤ c) : heN x b ≤ heN x c := by
  have h1 := he_spec x b
  have h2 := he_spec x c
  have h3 : x * b ≤ x * c := Nat.mul_le_mul_left _ h
  generalize x * b = a at *
  generalize x * c = d at *
  omega
theorem g12 (t : Tr) (x : Ls) (y z : Int) : Ctr Try.prog 12 [vT t, vX x, .ag [.d (.int .i64 y), .d (.int .i64 z)]] [] (.d (.bool true)) [] [] := by
  have c1 := q31 t x
  have c2 := q31 t { x with amt := max x.amt y }
  have c3 := q31 { t with bp := max t.bp z } x
  have hA : (bearsQ t x).2 = true → (bearsQ t { x with amt := max x.amt y }).2 = true → (bearsQ t x).1 ≤ (bearsQ t { x with amt := max x.amt y }).1 := by
    intro h1 h2
    rw [bearsQ_eq] at h1 h2 ⊢
    rw [bearsQ_eq]
    split at h1
    · rename_i g1
      split at h2
      · rename_i g2
        rw [if_pos g1, if_pos g2]
        simp only [mQ]
        have := he_mono (x := x.amt.toNat) (y := (max x.amt y).toNat) (b := t.bp.toNat) (by omega)
        omega
      · cases h2
    · cases h1
  have hB : (bearsQ t x).2 = true → (bearsQ { t with bp := max t.bp z } x).2 = true → (bearsQ t x).1 ≤ (bearsQ { t with bp := max t.bp z } x).1 := by
    intro h1 h2
    rw [bearsQ_eq] at h1 h2 ⊢
    rw [bearsQ_eq]
    split at h1
    · rename_i g1
      split at h2
      · rename_i g2
        rw [if_pos g1, if_pos g2]
        simp only [mQ]
        have := he_monob (x := x.amt.toNat) (b := t.bp.toNat) (c := (max t.bp z).toNat) (by omega)
        omega
      · cases h2
    · cases h1
  generalize bearsQ t x = X at *
  generalize bearsQ t { x with amt := max x.amt y } = Y at *
  generalize bearsQ { t with bp := max t.bp z } x = Z at *
  obtain ⟨X1, X2⟩ := X
  obtain ⟨Y1, Y2⟩ := Y
  obtain ⟨Z1, Z2⟩ := Z
  simp only [vT, vX, cT, cX'] at c1 c2 c3 hA hB
  refine pure12 (by simp) rfl rfl ?_; intro c hP hfn; simp only [c12, vT, vX, cT, cX', vcC_seq, vcC_reg, seqK_nrm, nrmK_app, initE, vcR_nil, vcR_n, isCall, makes, newOf, opR, evS, evV, evX, Go.Bx.get, Go.Bx.own?, cellsV, isCell, cut, dropV, takeV, St.stp, Ef.stp, lgs, setE, applyU, setO, newN, Option.getD_some, List.all_cons, List.all_nil, List.length_cons, List.length_nil, List.mem_cons, List.not_mem_nil, Bool.and_self, Bool.false_eq_true, reduceCtorEq, ↓reduceIte, true_and, and_self, or_false, not_false_eq_true, eq_self, Nat.reduceAdd, Nat.reduceEqDiff, Nat.zero_add, Nat.le_refl, Nat.succ_ne_self, Nat.zero_ne_one]
  have hC : ((!X2 || !Y2 || decide (Y1 ≥ X1)) && (!X2 || !Z2 || decide (Z1 ≥ X1))) = true := by
    cases X2 <;> cases Y2 <;> cases Z2 <;> simp at hA hB ⊢ <;> first | exact hA | exact hB | exact ⟨hA, hB⟩
  repeat' first
      | (first
          | refine TR.p hP (by first | exact q25 | exact c1 | exact c2 | exact c3) (by repeat' first | exact trivial | (intro _; assumption) | apply And.intro) ?_
          | refine TR.gp hP rfl (fun _ => by first | exact q25 | exact c1 | exact c2 | exact c3) (fun _ => by repeat' first | exact trivial | (intro _; assumption) | apply And.intro) ?_
          | refine TR.pv hP rfl (by first | exact q25 | exact c1 | exact c2 | exact c3) trivial (by repeat' first | exact trivial | (intro _; assumption) | apply And.intro) ?_
         try simp only [hC, vcC_seq, vcC_reg, vcC_drw, vcC_ret, seqK_nrm, nrmK_app, drwK_app, vcR_nil, vcR_n, vcR_s, isCall, makes, hasU, newOf, opR, binI, pickV, evS, evV, evX, gOf, Go.Bx.get, Go.Bx.own?, cellsV, isCell, cut, nth, dropV, takeV, putV, St.stp, Ef.stp, Stp.lg, lgs, setE, applyU, setO, newN, Option.getD_some, List.all_cons, List.all_nil, List.map_cons, List.map_nil, List.append_nil, List.nil_append, List.cons_append, List.length_cons, List.length_nil, List.mem_cons, List.not_mem_nil, Bool.true_and, Bool.and_self, Bool.false_eq_true, Bool.cond_true_left, Bool.cond_false_right, cond_true, ↓reduceIte, true_and, and_true, and_self, or_false, not_false_eq_true, forall_const, implies_true, imp_self, eq_self, Nat.reduceAdd, Nat.reduceLeDiff, Nat.reduceEqDiff, Nat.zero_add, Nat.add_zero, Nat.le_refl, Nat.succ_ne_self, Nat.reduceLT, or_true, Int.le_refl, Int.cast_ofNat_Int, Int.reduceToNat, Int.reduceLT, Int.reduceLE, Nat.mul_one])
      | refine And.intro (fun h => ?_) (fun h => ?_)
      | refine And.intro (by first | omega | (simp only [maxLen, decide_eq_true_eq, decide_eq_false_iff_not] at *; omega)) ?_
      | refine And.intro rfl ?_
      | fail
  all_goals exact RetK.pure (by simp only [rs12, ressS, resS, and_self]) (by (simp only [rs12, retV, resV, Go.Bx.get, ↓reduceIte, eq_self, VLe_refl, Go.Bx.get, ↓reduceIte, eq_self]) <;> (first | simp))
theorem mQ_spec {t : Tr} {x : Ls} (h1 : t.kind = 1) (h2 : takesT t x = true) : 10000 * mQ t x ≤ x.amt * t.bp + 5000 := by
  have hm := bears_m h1 h2
  have h3 := (he_spec x.amt.toNat t.bp.toNat).1
  have e1 : x.amt = (x.amt.toNat : Int) := by omega
  have e2 : t.bp = (t.bp.toNat : Int) := by omega
  have e3 : x.amt * t.bp = ((x.amt.toNat * t.bp.toNat : Nat) : Int) := by rw [Int.natCast_mul, ← e1, ← e2]
  rw [e3, mQ]; omega
theorem net_spec (x : Ls) : ∀ {ts : List Tr}, (∀ t, t ∈ ts → okQ t = true) → 10000 * (netB x ts).sum ≤ x.amt * (netP x ts).sum + 5000 * ((netB x ts).length : Int)
  | [], _ => by simp [netP, netB]
  | t :: r, h => by
    have ih := net_spec x (ts := r) (fun y hy => h y (by simp [hy]))
    by_cases ht : takesT t x = true
    · have hm := mQ_spec (okQ_iff.1 (h t (by simp))).1 ht
      have e1 : netP x (t :: r) = t.bp :: netP x r := by simp [netP, ht]
      have e2 : netB x (t :: r) = mQ t x :: netB x r := by simp [netB, ht]
      rw [e1, e2]
      simp only [List.length_cons, List.sum_cons, Int.mul_add]
      omega
    · have e1 : netP x (t :: r) = netP x r := by simp [netP, ht]
      have e2 : netB x (t :: r) = netB x r := by simp [netB, ht]
      rw [e1, e2]; exact ih
theorem net_inv {ts : List Tr} {x : Ls} : ((netR ts x).2 ≠ 0 → (netR ts x).1 = 0) ∧ ((netR ts x).2 = 0 → (∀ t, t ∈ ts → okQ t = true) ∧ lossX x = true ∧ (netP x ts).sum ≤ 10000 ∧ netR ts x = (max 0 (x.amt - (netB x ts).sum), 0)) := by
  unfold netR
  split
  · exact ⟨fun _ => rfl, fun h => by cases h⟩
  split
  · exact ⟨fun _ => rfl, fun h => by cases h⟩
  split
  · exact ⟨fun _ => rfl, fun h => by cases h⟩
  · rename_i h1 h2 h3
    refine ⟨fun h => absurd rfl h, fun _ => ⟨?_, by simpa using h2, by omega, rfl⟩⟩
    simpa using h1
theorem sums_fin {ts : List Tr} {x : Ls} (hok : ∀ t, t ∈ ts → okQ t = true) (hx : lossX x = true) (hP : (netP x ts).sum ≤ 10000) :
    let n := max 0 (x.amt - (netB x ts).sum)
    0 ≤ n ∧ (n + (netB x ts).sum = x.amt ∨ (n = 0 ∧ n + (netB x ts).sum > x.amt ∧ n + (netB x ts).sum ≤ x.amt + (netB x ts).length)) := by
  have ha := (lossX_iff.1 hx).2.2.2.2
  have hs := net_spec x hok
  have h2 : x.amt * (netP x ts).sum ≤ x.amt * 10000 := Int.mul_le_mul_of_nonneg_left hP ha.1
  intro n
  have hn : n = max 0 (x.amt - (netB x ts).sum) := rfl
  omega
set_option maxHeartbeats 2000000 in
theorem g13 (ts : List Tr) (x : Ls) : Ctr Try.prog 13 [.d (slT ts), vX x] [] (.d (.bool true)) [] [] := by
  refine pure13 (by simp) rfl rfl ?_; intro c hP hfn; simp only [c13, slT, vX, cX', vcC_seq, vcC_reg, vcC_skip, vcC_cond, seqK_nrm, nrmK_app, initE, vcR_nil, vcR_n, isCall, makes, newOf, opR, binI, evS, evV, evX, Go.Bx.get, Go.Bx.own?, cellsV, isCell, cut, dropV, takeV, St.stp, Ef.stp, lgs, setE, applyU, setO, newN, Option.getD_some, List.all_cons, List.all_nil, List.length_cons, List.length_nil, List.not_mem_nil, Bool.and_self, Bool.false_eq_true, reduceCtorEq, ↓reduceIte, true_and, and_self, not_false_eq_true, eq_self, Nat.reduceAdd, Nat.reduceEqDiff, Nat.zero_add, Nat.le_refl, Nat.succ_ne_self, Nat.zero_ne_one]
  refine ⟨fun h => ?_, fun h => ?_⟩
  · repeat' first
        | (first
            | refine TR.p hP (by first | exact q25) (by repeat' first | exact trivial | (intro _; assumption) | apply And.intro) ?_
            | refine TR.gp hP rfl (fun _ => by first | exact q25) (fun _ => by repeat' first | exact trivial | (intro _; assumption) | apply And.intro) ?_
            | refine TR.pv hP rfl (by first | exact q25) trivial (by repeat' first | exact trivial | (intro _; assumption) | apply And.intro) ?_
           try simp only [vcC_ret, seqK_nrm, seqK_ret, nrmK_app, vcR_nil, vcR_n, isCall, makes, newOf, opR, evS, evV, evX, Go.Bx.get, St.stp, Ef.stp, lgs, setE, applyU, newN, Bool.false_eq_true, ↓reduceIte, true_and, eq_self])
        | refine And.intro (fun h => ?_) (fun h => ?_)
        | refine And.intro (by first | omega | (simp only [maxLen, decide_eq_true_eq, decide_eq_false_iff_not] at *; omega)) ?_
        | refine And.intro rfl ?_
        | fail
    all_goals exact RetK.pure (by simp only [rs13, ressS, resS, and_self]) (by (simp only [rs13, retV, resV, Go.Bx.get, ↓reduceIte, eq_self, VLe_refl, Go.Bx.get, ↓reduceIte, eq_self]) <;> (first | simp))
  have hl : ts.length ≤ 100 := by have := of_decide_eq_false h; omega
  clear h
  have c33 := q33 ts x (by omega)
  have hi := net_inv (ts := ts) (x := x)
  by_cases he : (netR ts x).2 = 0
  · obtain ⟨hok, hx, hP1, e⟩ := hi.2 he
    have ha := (lossX_iff.1 hx).2.2.2.2
    have fin := sums_fin hok hx hP1
    rw [e] at c33
    simp only at fin
    generalize hn : max 0 (x.amt - (netB x ts).sum) = n at *
    have hn1 : n ≤ 1000000000000000 := by
      have := (net_bounds x hok).2.2.2.2.2.2.1
      omega
    have hn0 : 0 ≤ n := fin.1
    clear hi he
    repeat' first
        | (first
            | refine TR.p hP (by first | exact q25 | exact c33) (by repeat' first | exact trivial | (intro _; assumption) | apply And.intro) ?_
            | refine TR.gp hP rfl (fun _ => by first | exact q25 | exact c33) (fun _ => by repeat' first | exact trivial | (intro _; assumption) | apply And.intro) ?_
            | refine TR.pv hP rfl (by first | exact q25 | exact c33) trivial (by repeat' first | exact trivial | (intro _; assumption) | apply And.intro) ?_
           try simp only [vcC_seq, vcC_reg, vcC_skip, vcC_cond, vcC_block, vcC_ret, seqK_nrm, seqK_ret, nrmK_app, vcR_nil, vcR_n, vcR_s, isCall, makes, hasU, newOf, opR, binI, pickV, evS, evV, evX, gOf, Go.Bx.get, nth, St.stp, Ef.stp, lgs, setE, applyU, newN, Option.getD_some, List.length_cons, List.length_nil, List.mem_cons, List.not_mem_nil, Bool.and_self, Bool.false_eq_true, cond_true, reduceCtorEq, ↓reduceIte, true_and, and_self, or_false, not_false_eq_true, forall_const, implies_true, eq_self, Nat.reduceAdd, Nat.reduceEqDiff, Nat.zero_add, Nat.succ_ne_self, Nat.reduceLT])
        | refine And.intro (fun h => ?_) (fun h => ?_)
        | refine And.intro (by first | omega | (simp only [maxLen, decide_eq_true_eq, decide_eq_false_iff_not] at *; omega)) ?_
        | refine And.intro rfl ?_
        | fail
    · exfalso; simp at h
    refine vcC.loop (X := Nat) (fun k => ⟨[(3, .own 3 0), (5, .d (.int .i64 n)), (7, .d (.int .i64 (n + (netB x (ts.take k)).sum))), (8, .d (.int .i64 (netB x (ts.take k)).length)), (31, .d (slT ts)), (32, .d (.int .i64 ts.length)), (33, .d (.int .i64 k))], [(3, .fix (cX' x))], [3]⟩)
        (fun k => k ≤ ts.length) (fun k => ts.length - k) 0 (Nat.zero_le _) (Wk.of [] hfn rfl (by (simp only [slT, List.take_zero, netB, List.filter_nil, List.map_nil, List.sum_nil, List.length_nil, Int.add_zero, EnvLe, VLe_refl, Go.Bx.get, List.map_nil, List.length_nil, ↓reduceIte, and_self, eq_self, Nat.reduceEqDiff, Nat.succ_ne_self, List.take_zero, Int.cast_ofNat_Int]) <;> (first | exact wS (by omega) | (rw [List.length_append]; exact wS (by omega)) | assumption)) (by simp only [cX', OwnLe, OLe_refl, exists_eq_left', Option.some.injEq, Go.Bx.own?, ↓reduceIte, and_self, eq_self])) ?_
    intro k hk
    simp only [slT, cX', vcC_seq, vcC_reg, vcC_skip, vcC_cond, vcC_block, vcC_exit, seqK_nrm, seqK_exit, blkK_exit, lopK_exit, nrmK_app, vcR_nil, vcR_n, isCall, makes, newOf, opR, binI, evS, evV, evX, Go.Bx.get, Go.Bx.own?, cellsV, isCell, cut, cutD, dropV, takeV, dropD, takeDV, putV, St.stp, Ef.stp, lgs, setE, applyU, setO, newN, Option.getD_some, List.all_cons, List.all_nil, List.length_cons, List.length_nil, List.mem_cons, List.not_mem_nil, Bool.and_self, Bool.false_eq_true, ↓reduceIte, true_and, and_true, and_self, or_false, not_false_eq_true, eq_self, Nat.reduceAdd, Nat.reduceEqDiff, Nat.zero_add, Nat.le_refl, Nat.succ_ne_self, Int.toNat_natCast]
    refine ⟨fun h1 => ?_, fun h1 => ?_⟩
    · have hlt : k < ts.length := by have := of_decide_eq_true h1; omega
      obtain ⟨t, hd, hg, hmx, hat⟩ := drop_at hlt
      have ht : ts.take (k + 1) = ts.take k ++ [t] := by rw [List.take_add_one, hat]; rfl
      have hs := (net_snoc x (ts.take k) t).2
      rw [← ht] at hs
      have hq := bearsQ_eq t x
      have hb := net_bounds x (ts := ts.take k) (fun y hy => hok y (List.mem_of_mem_take hy))
      obtain ⟨b1, b2, b3, b4, b5, b6, b7, b8⟩ := hb
      rw [List.length_take, Nat.min_eq_left hk] at b1 b6 b8
      have ok := hok t hmx
      have hk1 := (okQ_iff.1 ok).1
      simp only [hg]
      repeat' first
          | (first
              | refine TR.p hP (by first | exact q31 t x) (by repeat' first | exact trivial | (intro _; assumption) | apply And.intro) ?_
              | refine TR.gp hP rfl (fun _ => by first | exact q31 t x) (fun _ => by repeat' first | exact trivial | (intro _; assumption) | apply And.intro) ?_
              | refine TR.pv hP rfl (by first | exact q31 t x) trivial (by repeat' first | exact trivial | (intro _; assumption) | apply And.intro) ?_
             try simp only [vcC_seq, vcC_reg, vcC_skip, vcC_cond, seqK_nrm, blkK_nrm, nrmK_app, vcR_nil, vcR_n, isCall, makes, newOf, opR, binI, evS, evV, evX, Go.Bx.get, nth, St.stp, Ef.stp, lgs, setE, applyU, newN, List.length_cons, List.length_nil, Bool.false_eq_true, ↓reduceIte, true_and, and_self, eq_self, Nat.reduceAdd, Nat.reduceEqDiff, Nat.zero_add, Nat.succ_ne_self, Nat.reduceLT])
          | refine And.intro (fun h => ?_) (fun h => ?_)
          | refine And.intro (by first | omega | (simp only [maxLen, decide_eq_true_eq, decide_eq_false_iff_not] at *; omega)) ?_
          | refine And.intro rfl ?_
          | fail
      · have htk : takesT t x = true := by
          by_cases h2 : takesT t x = true
          · exact h2
          · rw [hq, if_neg (fun h3 => h2 h3.2)] at h; cases h
        have hm := bears_m hk1 htk
        rw [if_pos ⟨hk1, htk⟩] at hq
        rw [if_pos htk] at hs
        have e1 : IntKind.i64.wrap (n + (netB x (ts.take k)).sum + mQ t x) = n + (netB x (ts.take (k + 1))).sum := by
          rw [hs, List.sum_append]
          simp only [List.sum_cons, List.sum_nil]
          exact (wI (by omega)).trans (by omega)
        have e2 : IntKind.i64.wrap (((netB x (ts.take k)).length : Int) + 1) = ((netB x (ts.take (k + 1))).length : Int) := by
          rw [hs, List.length_append]
          exact (wI (by omega)).trans (by simp)
        simp only [hq, e1, e2]
        exact lopK.on (k + 1) (by omega) (by omega) (Wk.of [] hfn rfl (by (simp only [EnvLe, VLe_refl, VLe_int, Go.Bx.get, ↓reduceIte, true_and, and_true, eq_self, Nat.reduceEqDiff, Nat.succ_ne_self]) <;> (first | exact wS (by omega) | (rw [List.length_append]; exact wS (by omega)) | assumption)) (by simp only [OwnLe, OLe_refl, exists_eq_left', Option.some.injEq, Go.Bx.own?, ↓reduceIte, and_self, eq_self]))
      · have htk : ¬ takesT t x = true := by
          intro h2; rw [hq, if_pos ⟨hk1, h2⟩] at h; cases h
        rw [if_neg htk, List.append_nil] at hs
        exact lopK.on (k + 1) (by omega) (by omega) (Wk.of [] hfn rfl (by (simp only [hs, EnvLe, VLe_refl, VLe_int, Go.Bx.get, ↓reduceIte, true_and, and_true, eq_self, Nat.reduceEqDiff, Nat.succ_ne_self]) <;> (first | exact wS (by omega) | (rw [List.length_append]; exact wS (by omega)) | assumption)) (by simp only [OwnLe, OLe_refl, exists_eq_left', Option.some.injEq, Go.Bx.own?, ↓reduceIte, and_self, eq_self]))
    · have hkl : k = ts.length := by have := of_decide_eq_false h1; omega
      rw [hkl, List.take_length]
      have hb := net_bounds x hok
      have hlen : (netB x ts).length ≤ 100 := by have := hb.1; have := hb.2.1; omega
      have e4 : IntKind.i64.wrap (x.amt + ((netB x ts).length : Int)) = x.amt + ((netB x ts).length : Int) := wI (by omega)
      have d0 : decide (n ≥ 0) = true := decide_eq_true hn0
      rcases fin.2 with f1 | ⟨f1, f2, f3⟩
      · have d1 : (n + (netB x ts).sum == x.amt) = true := by simpa using f1
        repeat' first
            | (first
                | refine TR.p hP (by first | exact q25) (by repeat' first | exact trivial | (intro _; assumption) | apply And.intro) ?_
                | refine TR.gp hP rfl (fun _ => by first | exact q25) (fun _ => by repeat' first | exact trivial | (intro _; assumption) | apply And.intro) ?_
                | refine TR.pv hP rfl (by first | exact q25) trivial (by repeat' first | exact trivial | (intro _; assumption) | apply And.intro) ?_
               try simp only [e4, d0, d1, vcC_ret, seqK_nrm, nrmK_app, vcR_nil, vcR_n, vcR_s, isCall, makes, hasU, newOf, opR, binI, pickV, evS, evV, evX, gOf, Go.Bx.get, Go.Bx.own?, cut, nth, St.stp, Ef.stp, lgs, setE, applyU, newN, Option.getD_some, List.length_cons, List.length_nil, List.mem_cons, List.not_mem_nil, Bool.true_and, Bool.and_self, Bool.not_true, Bool.false_eq_true, Bool.cond_false_right, cond_true, ↓reduceIte, true_and, and_true, and_self, false_and, or_false, not_false_eq_true, forall_const, implies_true, imp_self, eq_self, Nat.reduceAdd, Nat.reduceEqDiff, Nat.zero_add, Nat.le_refl, Nat.succ_ne_self])
            | refine And.intro (fun h => ?_) (fun h => ?_)
            | refine And.intro (by first | omega | (simp only [maxLen, decide_eq_true_eq, decide_eq_false_iff_not] at *; omega)) ?_
            | refine And.intro rfl ?_
            | fail
        exact RetK.pure (by simp only [rs13, ressS, resS, and_self]) (by (simp only [rs13, retV, resV, Go.Bx.get, ↓reduceIte, eq_self, VLe_refl, Go.Bx.get, ↓reduceIte, eq_self]) <;> (first | simp))
      · have d1 : (n + (netB x ts).sum == x.amt) = false := by rw [beq_eq_false_iff_ne]; omega
        have d2 : (n == 0) = true := by simpa using f1
        have d3 : decide (n + (netB x ts).sum > x.amt) = true := decide_eq_true f2
        have d4 : decide (n + (netB x ts).sum ≤ x.amt + ((netB x ts).length : Int)) = true := decide_eq_true f3
        repeat' first
            | (first
                | refine TR.p hP (by first | exact q25) (by repeat' first | exact trivial | (intro _; assumption) | apply And.intro) ?_
                | refine TR.gp hP rfl (fun _ => by first | exact q25) (fun _ => by repeat' first | exact trivial | (intro _; assumption) | apply And.intro) ?_
                | refine TR.pv hP rfl (by first | exact q25) trivial (by repeat' first | exact trivial | (intro _; assumption) | apply And.intro) ?_
               try simp only [e4, d0, d1, d2, d3, d4, vcC_ret, seqK_nrm, nrmK_app, vcR_nil, vcR_n, vcR_s, isCall, makes, hasU, newOf, opR, binI, pickV, evS, evV, evX, gOf, Go.Bx.get, Go.Bx.own?, cut, nth, St.stp, Ef.stp, lgs, setE, applyU, newN, Option.getD_some, List.length_cons, List.length_nil, List.mem_cons, List.not_mem_nil, Bool.and_self, Bool.not_false, Bool.false_eq_true, cond_true, cond_false, ↓reduceIte, true_and, and_self, or_false, not_false_eq_true, forall_const, implies_true, eq_self, Nat.reduceAdd, Nat.reduceEqDiff, Nat.zero_add, Nat.le_refl, Nat.succ_ne_self])
            | refine And.intro (fun h => ?_) (fun h => ?_)
            | refine And.intro (by first | omega | (simp only [maxLen, decide_eq_true_eq, decide_eq_false_iff_not] at *; omega)) ?_
            | refine And.intro rfl ?_
            | fail
        exact RetK.pure (by simp only [rs13, ressS, resS, and_self]) (by (simp only [rs13, retV, resV, Go.Bx.get, ↓reduceIte, eq_self, VLe_refl, Go.Bx.get, ↓reduceIte, eq_self]) <;> (first | simp))
  · have hz := hi.1 he
    repeat' first
        | (first
            | refine TR.p hP (by first | exact q25 | exact c33) (by repeat' first | exact trivial | (intro _; assumption) | apply And.intro) ?_
            | refine TR.gp hP rfl (fun _ => by first | exact q25 | exact c33) (fun _ => by repeat' first | exact trivial | (intro _; assumption) | apply And.intro) ?_
            | refine TR.pv hP rfl (by first | exact q25 | exact c33) trivial (by repeat' first | exact trivial | (intro _; assumption) | apply And.intro) ?_
           try simp only [hz, vcC_seq, vcC_reg, vcC_skip, vcC_cond, vcC_block, vcC_ret, seqK_nrm, seqK_ret, nrmK_app, vcR_nil, vcR_n, vcR_s, isCall, makes, hasU, newOf, opR, binI, pickV, evS, evV, evX, gOf, Go.Bx.get, nth, St.stp, Ef.stp, lgs, setE, applyU, newN, Option.getD_some, List.length_cons, List.length_nil, List.mem_cons, List.not_mem_nil, Bool.and_self, Bool.false_eq_true, cond_true, reduceCtorEq, ↓reduceIte, true_and, and_self, or_false, not_false_eq_true, forall_const, implies_true, eq_self, Nat.reduceAdd, Nat.reduceEqDiff, Nat.zero_add, Nat.succ_ne_self, Nat.reduceLT, beq_self_eq_true])
        | refine And.intro (fun h => ?_) (fun h => ?_)
        | refine And.intro (by first | omega | (simp only [maxLen, decide_eq_true_eq, decide_eq_false_iff_not] at *; omega)) ?_
        | refine And.intro rfl ?_
        | fail
    · exact RetK.pure (by simp only [rs13, ressS, resS, and_self]) (by (simp only [rs13, retV, resV, Go.Bx.get, ↓reduceIte, eq_self, VLe_refl, Go.Bx.get, ↓reduceIte, eq_self]) <;> (first | simp))
    · exfalso; simp at h; exact he h
end Go.Proofs.Ytolhfgjekomaaaa
