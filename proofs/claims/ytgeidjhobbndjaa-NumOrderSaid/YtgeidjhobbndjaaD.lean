import Derived.Test.YtgeidjhobbndjaaP
namespace Go.Proofs.Ytgeidjhobbndjaa
open Go.Bx
set_option maxRecDepth 10000

theorem f3 (a b k : Int) (ha : a ≤ 9223372036854775807) (hb : b ≤ 9223372036854775807) (hc : k ≤ 9223372036854775807) :
    Ctr Try.prog 3 [.d (.int .i64 a), .d (.int .i64 b), .d (.int .i64 k)] [] (.d (.bool true)) [] [] := by
  refine pure3 (by simp) rfl rfl ?_; intro c hP hfn; simp only [c3, vcC_seq, vcC_reg, seqK_nrm, nrmK_app, initE, vcR_nil, vcR_n, isCall, makes, newOf, opR, evS, evV, evX, Go.Bx.get, St.stp, Ef.stp, lgs, setE, applyU, newN, Bool.false_eq_true, reduceCtorEq, ↓reduceIte, true_and, eq_self, Nat.reduceAdd, Nat.reduceEqDiff, Nat.zero_add, Nat.zero_ne_one]
  repeat' first
      | (first
          | refine TR.p hP (by first | exact s12 a b k ha hb hc | exact s13 a b k ha hb hc | exact s14) (by repeat' first | exact trivial | (intro _; assumption) | apply And.intro) ?_
          | refine TR.gp hP rfl (fun _ => by first | exact s12 a b k ha hb hc | exact s13 a b k ha hb hc | exact s14) (fun _ => by repeat' first | exact trivial | (intro _; assumption) | apply And.intro) ?_
          | refine TR.pv hP rfl (by first | exact s12 a b k ha hb hc | exact s13 a b k ha hb hc | exact s14) trivial (by repeat' first | exact trivial | (intro _; assumption) | apply And.intro) ?_
         try simp only [vcC_seq, vcC_reg, vcC_ret, seqK_nrm, nrmK_app, vcR_nil, vcR_n, vcR_s, isCall, makes, hasU, newOf, opR, binI, pickV, evS, evV, evX, gOf, Go.Bx.get, nth, St.stp, Ef.stp, lgs, setE, applyU, newN, Option.getD_some, List.length_cons, List.length_nil, List.not_mem_nil, Bool.and_self, Bool.false_eq_true, cond_true, reduceCtorEq, ↓reduceIte, true_and, and_self, not_false_eq_true, forall_const, implies_true, eq_self, Nat.reduceAdd, Nat.reduceEqDiff, Nat.zero_add, Nat.succ_ne_self, Nat.zero_ne_one, Nat.reduceLT, beq_self_eq_true])
      | refine And.intro (fun h => ?_) (fun h => ?_)
      | refine And.intro (by first | omega | (simp only [maxLen, decide_eq_true_eq, decide_eq_false_iff_not] at *; omega)) ?_
      | refine And.intro rfl ?_
      | fail
  all_goals exact RetK.pure (by simp only [rs3, ressS, resS, and_self]) (by (simp only [rs3, retV, resV, Go.Bx.get, ↓reduceIte, eq_self, VLe_refl, Go.Bx.get, ↓reduceIte, eq_self]) <;> (first | simp))
theorem f4 (a b k : Int) (ha : a ≤ 9223372036854775807) (hb : b ≤ 9223372036854775807) (hc : k ≤ 9223372036854775807) :
    Ctr Try.prog 4 [.d (.int .i64 a), .d (.int .i64 b), .d (.int .i64 k)] [] (.d (.bool true)) [] [] := by
  refine pure4 (by simp) rfl rfl ?_; intro c hP hfn; simp only [c4, vcC_seq, vcC_reg, seqK_nrm, nrmK_app, initE, vcR_nil, vcR_n, isCall, makes, newOf, opR, evS, evV, evX, Go.Bx.get, St.stp, Ef.stp, lgs, setE, applyU, newN, Bool.false_eq_true, reduceCtorEq, ↓reduceIte, true_and, eq_self, Nat.reduceAdd, Nat.reduceEqDiff, Nat.zero_add, Nat.zero_ne_one]
  repeat' first
      | (first
          | refine TR.p hP (by first | exact sEven a b k ha hb hc | exact s16 a b k ha hb hc | exact sBp a b ha hb | exact s18 a b ha hb | exact s14) (by repeat' first | exact trivial | (intro _; assumption) | apply And.intro) ?_
          | refine TR.gp hP rfl (fun _ => by first | exact sEven a b k ha hb hc | exact s16 a b k ha hb hc | exact sBp a b ha hb | exact s18 a b ha hb | exact s14) (fun _ => by repeat' first | exact trivial | (intro _; assumption) | apply And.intro) ?_
          | refine TR.pv hP rfl (by first | exact sEven a b k ha hb hc | exact s16 a b k ha hb hc | exact sBp a b ha hb | exact s18 a b ha hb | exact s14) trivial (by repeat' first | exact trivial | (intro _; assumption) | apply And.intro) ?_
         try simp only [vcC_seq, vcC_reg, vcC_ret, seqK_nrm, nrmK_app, vcR_nil, vcR_n, vcR_s, isCall, makes, hasU, newOf, opR, binI, pickV, evS, evV, evX, gOf, Go.Bx.get, nth, St.stp, Ef.stp, lgs, setE, applyU, newN, Option.getD_some, List.length_cons, List.length_nil, List.not_mem_nil, Bool.and_self, Bool.false_eq_true, cond_true, reduceCtorEq, ↓reduceIte, true_and, and_self, not_false_eq_true, forall_const, implies_true, eq_self, Nat.reduceAdd, Nat.reduceEqDiff, Nat.zero_add, Nat.succ_ne_self, Nat.zero_ne_one, Nat.reduceLT, beq_self_eq_true])
      | refine And.intro (fun h => ?_) (fun h => ?_)
      | refine And.intro (by first | omega | (simp only [maxLen, decide_eq_true_eq, decide_eq_false_iff_not] at *; omega)) ?_
      | refine And.intro rfl ?_
      | fail
  all_goals exact RetK.pure (by simp only [rs4, ressS, resS, and_self]) (by (simp only [rs4, retV, resV, Go.Bx.get, ↓reduceIte, eq_self, VLe_refl, Go.Bx.get, ↓reduceIte, eq_self]) <;> (first | simp))
theorem f5 (m : Int) (l : List Int) (hm : m ≤ 9223372036854775807) (hl : l.length ≤ 9223372036854775807) (hx : ∀ x, x ∈ l → x ≤ 9223372036854775807) :
    Ctr Try.prog 5 [.d (.int .i64 m), .d (slK .i64 l)] [] (.d (.bool true)) [] [] := by
  refine pure5 (by simp) rfl rfl ?_; intro c hP hfn; simp only [c5, vcC_seq, vcC_reg, vcC_skip, vcC_cond, seqK_nrm, nrmK_app, initE, vcR_nil, vcR_n, isCall, makes, slK, newOf, opR, binI, evS, evV, evX, evSs, evVs, catV, Go.Bx.get, toDs, St.stp, Ef.stp, lgs, setE, applyU, setO, newN, Option.getD_some, List.not_mem_nil, Bool.false_eq_true, reduceCtorEq, ↓reduceIte, true_and, and_true, and_self, not_false_eq_true, implies_true, eq_self, Nat.reduceEqDiff, Nat.zero_add, Nat.succ_ne_self, Nat.zero_ne_one, Nat.not_lt_zero, Nat.sub_zero, true_or]
  refine ⟨fun h => ?_, fun h => ?_⟩
  · repeat' first
        | (first
            | refine TR.p hP (by first | exact s14) (by repeat' first | exact trivial | (intro _; assumption) | apply And.intro) ?_
            | refine TR.gp hP rfl (fun _ => by first | exact s14) (fun _ => by repeat' first | exact trivial | (intro _; assumption) | apply And.intro) ?_
            | refine TR.pv hP rfl (by first | exact s14) trivial (by repeat' first | exact trivial | (intro _; assumption) | apply And.intro) ?_
           try simp only [vcC_ret, seqK_nrm, seqK_ret, nrmK_app, vcR_nil, vcR_n, isCall, makes, newOf, opR, evS, evV, evX, Go.Bx.get, St.stp, Ef.stp, lgs, setE, applyU, newN, Bool.false_eq_true, ↓reduceIte, true_and, eq_self])
        | refine And.intro (fun h => ?_) (fun h => ?_)
        | refine And.intro (by first | omega | (simp only [maxLen, decide_eq_true_eq, decide_eq_false_iff_not] at *; omega)) ?_
        | refine And.intro rfl ?_
        | fail
    all_goals exact RetK.pure (by simp only [rs5, ressS, resS, and_self]) (by (simp only [rs5, retV, resV, Go.Bx.get, ↓reduceIte, eq_self, VLe_refl, Go.Bx.get, ↓reduceIte, eq_self]) <;> (first | simp))
  have hl2 : l.length ≤ 2100 := by have := of_decide_eq_false h; omega
  refine ⟨⟨by omega, Nat.le_trans hl2 (by decide)⟩, ?_⟩
  refine TR.wk _ (Wk.pub 16 rfl) ?_
  repeat' first
      | (first
          | refine TR.p hP (by first | exact s19 m l hm hl hx | exact s20 m l hm hl hx | exact s21 (splitR m l).1 (splitR m l).1 (Nat.le_trans (split_len m l) hl) | exact s21 l l hl | exact s14) (by repeat' first | exact trivial | (intro _; assumption) | apply And.intro) ?_
          | refine TR.gp hP rfl (fun _ => by first | exact s19 m l hm hl hx | exact s20 m l hm hl hx | exact s21 (splitR m l).1 (splitR m l).1 (Nat.le_trans (split_len m l) hl) | exact s21 l l hl | exact s14) (fun _ => by repeat' first | exact trivial | (intro _; assumption) | apply And.intro) ?_
          | refine TR.pv hP rfl (by first | exact s19 m l hm hl hx | exact s20 m l hm hl hx | exact s21 (splitR m l).1 (splitR m l).1 (Nat.le_trans (split_len m l) hl) | exact s21 l l hl | exact s14) trivial (by repeat' first | exact trivial | (intro _; assumption) | apply And.intro) ?_
         try simp only [vcC_seq, vcC_reg, vcC_ret, seqK_nrm, nrmK_app, vcR_nil, vcR_n, vcR_s, isCall, makes, hasU, slK, newOf, opR, binI, pickV, evS, evV, evX, gOf, Go.Bx.get, nth, St.stp, Ef.stp, lgs, setE, applyU, delO, newN, Option.getD_some, List.length_cons, List.length_nil, List.mem_cons, List.not_mem_nil, Bool.and_self, Bool.false_eq_true, cond_true, reduceCtorEq, ↓reduceIte, true_and, and_self, or_false, not_false_eq_true, forall_const, implies_true, eq_self, Nat.reduceAdd, Nat.reduceEqDiff, Nat.zero_add, Nat.succ_ne_self, Nat.zero_ne_one, pubE, pubV, pubO, Nat.reduceLT, decide_true, beq_self_eq_true])
      | refine And.intro (fun h => ?_) (fun h => ?_)
      | refine And.intro (by first | omega | (simp only [maxLen, decide_eq_true_eq, decide_eq_false_iff_not] at *; omega)) ?_
      | refine And.intro rfl ?_
      | fail
  all_goals exact RetK.pure (by simp only [rs5, ressS, resS, and_self]) (by (simp only [rs5, retV, resV, Go.Bx.get, ↓reduceIte, eq_self, VLe_refl, Go.Bx.get, ↓reduceIte, eq_self]) <;> (first | simp))
theorem f6 (m : Int) (l : List Int) (hm : m ≤ 9223372036854775807) (hl : l.length ≤ 9223372036854775807) (hx : ∀ x, x ∈ l → x ≤ 9223372036854775807) :
    Ctr Try.prog 6 [.d (.int .i64 m), .d (slK .i64 l)] [] (.d (.bool true)) [] [] := by
  have c19 := s19 m l hm hl hx
  by_cases he : (splitR m l).2 = 0
  · have ok := split_inv he
    have hm0 := ok.m0
    have hS0 := ok.S0
    have e := split_ok ok
    rw [e] at c19
    have hdl := dealQ_len m l.sum l 0
    generalize hxs : dealQ m l.sum 0 l = xs at *
    have htot : (xs.take l.length).sum = m := by
      rw [← hxs, dealQ_take]; simp [Int.mul_ediv_cancel m (show l.sum ≠ 0 by omega)]
    have hat : ∀ k, k < l.length → xs.getD k 0 = m * (l.take (k + 1)).sum / l.sum - m * (l.take k).sum / l.sum := fun k hk => by rw [← hxs]; exact dealQ_at hk
    have hpre : ∀ k, (xs.take k).sum = m * (l.take k).sum / l.sum := fun k => by rw [← hxs, dealQ_take]; simp
    have hstep : ∀ k, k < l.length → 0 ≤ xs.getD k 0 ∧ (l.getD k 0 = 0 → xs.getD k 0 = 0) ∧ 0 ≤ (xs.take k).sum ∧ (xs.take (k + 1)).sum = (xs.take k).sum + xs.getD k 0 ∧ (xs.take (k + 1)).sum ≤ m := by
      intro k hk
      have t1 := take_nn ok.nn k
      have t2 := take_nn ok.nn (k + 1)
      have t3 := take_sum hk
      have t4 : 0 ≤ l.getD k 0 := by obtain ⟨x, hd, hg, hmx, -⟩ := drop_at hk; rw [hg]; exact ok.nn x hmx
      have q1 := quo_le hm0 hS0 (show (l.take k).sum ≤ (l.take (k + 1)).sum by omega)
      have q2 := quo_nn hm0 hS0 t1.1
      have q3 := quo_top hm0 hS0 t2.2
      rw [hpre, hpre, hat k hk]
      refine ⟨by omega, fun h0 => ?_, q2, by omega, q3⟩
      rw [t3, h0, Int.add_zero]; omega
    refine pure6 (by simp) rfl rfl ?_; intro c hP hfn; simp only [c6, vcC_seq, vcC_reg, vcC_skip, vcC_cond, seqK_nrm, nrmK_app, initE, vcR_nil, vcR_n, isCall, makes, slK, newOf, opR, binI, evS, evV, evX, Go.Bx.get, St.stp, Ef.stp, lgs, setE, applyU, newN, Bool.false_eq_true, reduceCtorEq, ↓reduceIte, true_and, and_self, eq_self, Nat.reduceEqDiff, Nat.zero_add, Nat.zero_ne_one]
    repeat' first
        | (first
            | refine TR.p hP (by first | exact s14 | exact c19) (by repeat' first | exact trivial | (intro _; assumption) | apply And.intro) ?_
            | refine TR.gp hP rfl (fun _ => by first | exact s14 | exact c19) (fun _ => by repeat' first | exact trivial | (intro _; assumption) | apply And.intro) ?_
            | refine TR.pv hP rfl (by first | exact s14 | exact c19) trivial (by repeat' first | exact trivial | (intro _; assumption) | apply And.intro) ?_
           try simp only [vcC_seq, vcC_reg, vcC_skip, vcC_cond, vcC_block, vcC_ret, seqK_nrm, seqK_ret, nrmK_app, vcR_nil, vcR_n, vcR_s, isCall, makes, hasU, slK, newOf, opR, binI, pickV, evS, evV, evX, gOf, Go.Bx.get, nth, St.stp, Ef.stp, lgs, setE, applyU, newN, Option.getD_some, List.length_cons, List.length_nil, List.not_mem_nil, Bool.and_self, Bool.false_eq_true, cond_true, ↓reduceIte, true_and, and_self, not_false_eq_true, forall_const, implies_true, eq_self, Nat.reduceAdd, Nat.reduceEqDiff, Nat.zero_add, Nat.succ_ne_self, Nat.zero_ne_one, Nat.reduceLT])
        | refine And.intro (fun h => ?_) (fun h => ?_)
        | refine And.intro (by first | omega | (simp only [maxLen, decide_eq_true_eq, decide_eq_false_iff_not] at *; omega)) ?_
        | refine And.intro rfl ?_
        | fail
    · exact RetK.pure (by simp only [rs6, ressS, resS, and_self]) (by (simp only [rs6, retV, resV, Go.Bx.get, ↓reduceIte, eq_self, VLe_refl, Go.Bx.get, ↓reduceIte, eq_self]) <;> (first | simp))
    · exfalso; simp at h
    · exfalso; simp [hdl] at h
    · have hm4 := ok.m4
      refine vcC.loop (X := Nat) (fun k => ⟨[(0, .d (.int .i64 m)), (1, .d (slK .i64 l)), (7, .d (.int .i64 (xs.take k).sum)), (33, .d (slK .i64 xs)), (34, .d (.int .i64 xs.length)), (35, .d (.int .i64 k))], [], []⟩)
        (fun k => k ≤ xs.length) (fun k => xs.length - k) 0 (Nat.zero_le _) (Wk.of [] hfn rfl (by (simp only [List.take_zero, List.sum_nil, EnvLe, VLe_refl, slK, Go.Bx.get, reduceCtorEq, ↓reduceIte, and_self, eq_self, Nat.reduceEqDiff, Nat.succ_ne_self, Nat.zero_ne_one, List.take_zero, Int.cast_ofNat_Int]) <;> (first | exact wS (by omega) | (rw [List.length_append]; exact wS (by omega)) | assumption)) (by simp only [OwnLe])) ?_
      intro k hk
      simp only [vcC_seq, vcC_reg, vcC_skip, vcC_cond, vcC_block, vcC_exit, vcC_ret, seqK_nrm, seqK_exit, seqK_ret, blkK_nrm, blkK_exit, blkK_ret, lopK_exit, lopK_ret, nrmK_app, vcR_nil, vcR_n, vcR_s, isCall, makes, hasU, slK, newOf, opR, binI, pickV, evS, evV, evX, gOf, Go.Bx.get, cutD, nthD, St.stp, Ef.stp, lgs, setE, applyU, newN, Option.getD_some, List.length_cons, List.length_nil, List.not_mem_nil, Bool.true_and, Bool.false_eq_true, Bool.cond_true_left, Bool.cond_false_right, reduceCtorEq, ↓reduceIte, true_and, and_true, and_self, not_false_eq_true, forall_const, implies_true, imp_self, eq_self, Nat.reduceEqDiff, Nat.zero_add, Nat.le_refl, Nat.succ_ne_self, Nat.zero_ne_one, Int.toNat_natCast]
      refine ⟨fun h1 => ?_, fun h1 => ?_⟩
      · have hlt : k < l.length := by have := of_decide_eq_true h1; omega
        obtain ⟨g1, g2, g3, g4, g5⟩ := hstep k hlt
        have ew : IntKind.i64.wrap ((xs.take k).sum + xs.getD k 0) = (xs.take (k + 1)).sum := (wI (by omega)).trans g4.symm
        simp only [ew]
        refine ⟨by omega, fun _ => by omega, fun h => ?_, fun h => ?_⟩
        · exfalso
          simp only [Bool.or_eq_true, Bool.and_eq_true, decide_eq_true_eq, beq_iff_eq, bne_iff_ne] at h
          rcases h with h | h
          · omega
          · exact h.2 (g2 h.1)
        · exact lopK.on (k + 1) (by omega) (by omega) (Wk.of [] hfn rfl (by (simp only [EnvLe, VLe_refl, VLe_int, Go.Bx.get, reduceCtorEq, ↓reduceIte, true_and, and_true, eq_self, Nat.reduceEqDiff, Nat.succ_ne_self, Nat.zero_ne_one]) <;> (first | exact wS (by omega) | (rw [List.length_append]; exact wS (by omega)) | assumption)) (by simp only [OwnLe]))
      · have hkl : k = l.length := by have := of_decide_eq_false h1; omega
        subst hkl
        repeat' first
            | (first
                | refine TR.p hP (by first | exact s14) (by repeat' first | exact trivial | (intro _; assumption) | apply And.intro) ?_
                | refine TR.gp hP rfl (fun _ => by first | exact s14) (fun _ => by repeat' first | exact trivial | (intro _; assumption) | apply And.intro) ?_
                | refine TR.pv hP rfl (by first | exact s14) trivial (by repeat' first | exact trivial | (intro _; assumption) | apply And.intro) ?_
               try simp only [vcC_ret, seqK_nrm, nrmK_app, vcR_nil, vcR_n, vcR_s, isCall, makes, hasU, newOf, opR, binI, pickV, evS, evV, evX, gOf, Go.Bx.get, St.stp, Ef.stp, lgs, setE, applyU, newN, Option.getD_some, List.not_mem_nil, Bool.and_self, Bool.false_eq_true, cond_true, reduceCtorEq, ↓reduceIte, true_and, and_self, not_false_eq_true, forall_const, implies_true, eq_self, Nat.reduceEqDiff, Nat.succ_ne_self])
            | refine And.intro (fun h => ?_) (fun h => ?_)
            | refine And.intro (by first | omega | (simp only [maxLen, decide_eq_true_eq, decide_eq_false_iff_not] at *; omega)) ?_
            | refine And.intro rfl ?_
            | fail
        exact RetK.pure (by simp only [rs6, ressS, resS, and_self]) (by (simp only [rs6, retV, resV, Go.Bx.get, ↓reduceIte, eq_self, VLe_bool, Go.Bx.get, ↓reduceIte, eq_self]) <;> (first | simp [htot]))
  · have e := split_bad he
    refine pure6 (by simp) rfl rfl ?_; intro c hP hfn; simp only [c6, vcC_seq, vcC_reg, vcC_skip, vcC_cond, seqK_nrm, nrmK_app, initE, vcR_nil, vcR_n, isCall, makes, slK, newOf, opR, binI, evS, evV, evX, Go.Bx.get, St.stp, Ef.stp, lgs, setE, applyU, newN, Bool.false_eq_true, reduceCtorEq, ↓reduceIte, true_and, and_self, eq_self, Nat.reduceEqDiff, Nat.zero_add, Nat.zero_ne_one]
    repeat' first
        | (first
            | refine TR.p hP (by first | exact s14 | exact c19) (by repeat' first | exact trivial | (intro _; assumption) | apply And.intro) ?_
            | refine TR.gp hP rfl (fun _ => by first | exact s14 | exact c19) (fun _ => by repeat' first | exact trivial | (intro _; assumption) | apply And.intro) ?_
            | refine TR.pv hP rfl (by first | exact s14 | exact c19) trivial (by repeat' first | exact trivial | (intro _; assumption) | apply And.intro) ?_
           try simp only [e, vcC_seq, vcC_reg, vcC_skip, vcC_cond, vcC_block, vcC_ret, seqK_nrm, seqK_ret, nrmK_app, vcR_nil, vcR_n, vcR_s, isCall, makes, hasU, slK, newOf, opR, binI, pickV, evS, evV, evX, gOf, Go.Bx.get, nth, St.stp, Ef.stp, lgs, setE, applyU, newN, Option.getD_some, List.length_cons, List.length_nil, List.not_mem_nil, Bool.and_self, Bool.false_eq_true, cond_true, ↓reduceIte, true_and, and_self, not_false_eq_true, forall_const, implies_true, eq_self, Nat.reduceAdd, Nat.reduceEqDiff, Nat.zero_add, Nat.succ_ne_self, Nat.zero_ne_one, Nat.reduceLT, Int.cast_ofNat_Int, beq_self_eq_true])
        | refine And.intro (fun h => ?_) (fun h => ?_)
        | refine And.intro (by first | omega | (simp only [maxLen, decide_eq_true_eq, decide_eq_false_iff_not] at *; omega)) ?_
        | refine And.intro rfl ?_
        | fail
    · exact RetK.pure (by simp only [rs6, ressS, resS, and_self]) (by (simp only [rs6, retV, resV, Go.Bx.get, ↓reduceIte, eq_self, VLe_refl, Go.Bx.get, ↓reduceIte, eq_self]) <;> (first | simp))
    · exact RetK.pure (by simp only [rs6, ressS, resS, and_self]) (by (simp only [rs6, retV, resV, Go.Bx.get, ↓reduceIte, eq_self, VLe_refl, Go.Bx.get, ↓reduceIte, eq_self]) <;> (first | simp))
    all_goals exfalso; simp_all
theorem f7 (m : Int) (l : List Int) (hm : m ≤ 9223372036854775807) (hl : l.length ≤ 9223372036854775807) (hx : ∀ x, x ∈ l → x ≤ 9223372036854775807) :
    Ctr Try.prog 7 [.d (.int .i64 m), .d (slK .i64 l)] [] (.d (.bool true)) [] [] := by
  have c19 := s19 m l hm hl hx
  have c22 := s22 l hl
  by_cases he : (splitR m l).2 = 0
  · have ok := split_inv he
    have hm0 := ok.m0
    have hm4 := ok.m4
    have hS0 := ok.S0
    have hS4 := ok.S4
    have e := split_ok ok
    have e2 := sumQ_eq l 0 (fun x h => ⟨ok.nn x h, hx x h⟩) (by omega) (by omega)
    rw [Int.zero_add, if_neg (by omega)] at e2
    rw [e] at c19
    rw [e2] at c22
    have hdl := dealQ_len m l.sum l 0
    generalize hxs : dealQ m l.sum 0 l = xs at *
    have hstep : ∀ k, k < l.length → 0 ≤ l.getD k 0 ∧ m * l.getD k 0 / l.sum ≤ xs.getD k 0 ∧ xs.getD k 0 ≤ m * l.getD k 0 / l.sum + 1 ∧ m * l.getD k 0 / l.sum ≤ m ∧ 0 ≤ m * l.getD k 0 / l.sum ∧ (l.length = 1 → xs.getD k 0 = m * l.getD k 0 / l.sum) := by
      intro k hk
      have t1 := take_nn ok.nn k
      have t2 := take_nn ok.nn (k + 1)
      have t3 := take_sum hk
      have t4 : 0 ≤ l.getD k 0 := by obtain ⟨x, hd, hg, hmx, -⟩ := drop_at hk; rw [hg]; exact ok.nn x hmx
      have hat : xs.getD k 0 = m * (l.take (k + 1)).sum / l.sum - m * (l.take k).sum / l.sum := by rw [← hxs]; exact dealQ_at hk
      have q1 := quo_add (a := m * (l.take k).sum) (b := m * l.getD k 0) hS0
      rw [← Int.mul_add, ← t3] at q1
      have q2 := quo_nn hm0 hS0 t4
      have q3 := quo_top hm0 hS0 (show l.getD k 0 ≤ l.sum by omega)
      refine ⟨t4, by omega, by omega, q3, q2, fun h1 => ?_⟩
      have hk0 : k = 0 := by omega
      rw [hat, t3, hk0]; simp
    refine pure7 (by simp) rfl rfl ?_; intro c hP hfn; simp only [c7, vcC_seq, vcC_reg, vcC_skip, vcC_cond, seqK_nrm, nrmK_app, initE, vcR_nil, vcR_n, isCall, makes, slK, newOf, opR, binI, evS, evV, evX, Go.Bx.get, St.stp, Ef.stp, lgs, setE, applyU, newN, Bool.false_eq_true, reduceCtorEq, ↓reduceIte, true_and, and_self, eq_self, Nat.reduceEqDiff, Nat.zero_add, Nat.zero_ne_one]
    repeat' first
        | (first
            | refine TR.p hP (by first | exact s14 | exact c19 | exact c22) (by repeat' first | exact trivial | (intro _; assumption) | apply And.intro) ?_
            | refine TR.gp hP rfl (fun _ => by first | exact s14 | exact c19 | exact c22) (fun _ => by repeat' first | exact trivial | (intro _; assumption) | apply And.intro) ?_
            | refine TR.pv hP rfl (by first | exact s14 | exact c19 | exact c22) trivial (by repeat' first | exact trivial | (intro _; assumption) | apply And.intro) ?_
           try simp only [vcC_seq, vcC_reg, vcC_skip, vcC_cond, vcC_block, vcC_ret, seqK_nrm, seqK_ret, nrmK_app, vcR_nil, vcR_n, vcR_s, isCall, makes, hasU, slK, newOf, opR, binI, pickV, evS, evV, evX, gOf, Go.Bx.get, nth, St.stp, Ef.stp, lgs, setE, applyU, newN, Option.getD_some, List.length_cons, List.length_nil, List.not_mem_nil, Bool.and_self, Bool.not_true, Bool.not_false, Bool.false_eq_true, cond_false, ↓reduceIte, true_and, and_self, not_false_eq_true, forall_const, implies_true, eq_self, Nat.reduceAdd, Nat.reduceEqDiff, Nat.zero_add, Nat.succ_ne_self, Nat.zero_ne_one, Nat.reduceLT])
        | refine And.intro (fun h => ?_) (fun h => ?_)
        | refine And.intro (by first | omega | (simp only [maxLen, decide_eq_true_eq, decide_eq_false_iff_not] at *; omega)) ?_
        | refine And.intro rfl ?_
        | fail
    · exact RetK.pure (by simp only [rs7, ressS, resS, and_self]) (by (simp only [rs7, retV, resV, Go.Bx.get, ↓reduceIte, eq_self, VLe_refl, Go.Bx.get, ↓reduceIte, eq_self]) <;> (first | simp))
    · exfalso; simp at h
    · exfalso; simp [hdl] at h
    · refine vcC.loop (X := Nat) (fun k => ⟨[(0, .d (.int .i64 m)), (1, .d (slK .i64 l)), (7, .d (.int .i64 l.sum)), (41, .d (slK .i64 xs)), (42, .d (.int .i64 xs.length)), (43, .d (.int .i64 k))], [], []⟩)
        (fun k => k ≤ xs.length) (fun k => xs.length - k) 0 (Nat.zero_le _) (Wk.of [] hfn rfl (by (simp only [EnvLe, VLe_refl, slK, Go.Bx.get, reduceCtorEq, ↓reduceIte, and_self, eq_self, Nat.reduceEqDiff, Nat.succ_ne_self, Nat.zero_ne_one, Int.cast_ofNat_Int]) <;> (first | exact wS (by omega) | (rw [List.length_append]; exact wS (by omega)) | assumption)) (by simp only [OwnLe])) ?_
      intro k hk
      simp only [vcC_seq, vcC_reg, vcC_skip, vcC_cond, vcC_block, vcC_exit, seqK_nrm, seqK_exit, blkK_exit, lopK_exit, nrmK_app, vcR_nil, vcR_n, isCall, makes, slK, newOf, opR, binI, evS, evV, evX, Go.Bx.get, cutD, nthD, St.stp, Ef.stp, lgs, setE, applyU, newN, List.length_cons, List.length_nil, Bool.false_eq_true, reduceCtorEq, ↓reduceIte, true_and, and_true, and_self, eq_self, Nat.reduceEqDiff, Nat.zero_add, Nat.le_refl, Nat.succ_ne_self, Nat.zero_ne_one, Int.toNat_natCast]
      refine ⟨fun h1 => ?_, fun h1 => ?_⟩
      · have hlt : k < l.length := by have := of_decide_eq_true h1; omega
        obtain ⟨g0, g1, g2, g3, g4, g5⟩ := hstep k hlt
        have hgx : l.getD k 0 ≤ 9223372036854775807 := by obtain ⟨x, hd, hg, hmx, -⟩ := drop_at hlt; rw [hg]; exact hx x hmx
        generalize l.getD k 0 = p at *
        generalize xs.getD k 0 = v at *
        have c23 : Ctr Try.prog 23 [.d (.int .i64 m), .d (.int .i64 p), .d (.int .i64 l.sum)] [] (.tup [.d (.int .i64 (m * p / l.sum)), .d (.int .i64 (m * p % l.sum)), .d (.bool true)]) [] [] := by
          obtain ⟨M, hM⟩ : ∃ A : Nat, m = (A : Int) := ⟨m.toNat, by omega⟩
          obtain ⟨T, hT⟩ : ∃ A : Nat, p = (A : Int) := ⟨p.toNat, by omega⟩
          obtain ⟨K, hK⟩ : ∃ A : Nat, l.sum = (A : Int) := ⟨l.sum.toNat, by omega⟩
          have h := s23 M T K (by omega) (by omega) (by omega) (by omega)
          rw [hK, hT, hM] at g3
          have g3' : M * T / K ≤ M := by exact_mod_cast g3
          rw [twoR, if_neg (by omega)] at h
          rw [hK, hT, hM]
          simpa using h
        have ew : IntKind.i64.wrap (m * p / l.sum + 1) = m * p / l.sum + 1 := wI (by omega)
        refine ⟨by omega, by omega, ?_⟩
        repeat' first
            | (first
                | refine TR.p hP (by first | exact c23) (by repeat' first | exact trivial | (intro _; assumption) | apply And.intro) ?_
                | refine TR.gp hP rfl (fun _ => by first | exact c23) (fun _ => by repeat' first | exact trivial | (intro _; assumption) | apply And.intro) ?_
                | refine TR.pv hP rfl (by first | exact c23) trivial (by repeat' first | exact trivial | (intro _; assumption) | apply And.intro) ?_
               try simp only [ew, vcC_seq, vcC_reg, vcC_skip, vcC_cond, vcC_ret, seqK_nrm, seqK_ret, blkK_nrm, blkK_ret, lopK_ret, nrmK_app, vcR_nil, vcR_n, vcR_s, isCall, makes, hasU, newOf, opR, binI, pickV, evS, evV, evX, gOf, Go.Bx.get, nth, St.stp, Ef.stp, lgs, setE, applyU, newN, Option.getD_some, List.length_cons, List.length_nil, List.not_mem_nil, Bool.true_and, Bool.false_eq_true, Bool.cond_true_left, Bool.cond_false_right, reduceCtorEq, ↓reduceIte, true_and, and_true, and_self, not_false_eq_true, forall_const, implies_true, imp_self, eq_self, Nat.reduceAdd, Nat.reduceEqDiff, Nat.zero_add, Nat.succ_ne_self, Nat.zero_ne_one, Nat.reduceLT])
            | refine And.intro (fun h => ?_) (fun h => ?_)
            | refine And.intro (by first | omega | (simp only [maxLen, decide_eq_true_eq, decide_eq_false_iff_not] at *; omega)) ?_
            | refine And.intro rfl ?_
            | fail
        · exfalso
          simp only [Bool.or_eq_true, Bool.and_eq_true, decide_eq_true_eq, beq_iff_eq, bne_iff_ne] at h
          rcases h with (h | h) | h
          · omega
          · omega
          · exact h.2 (g5 (by have := h.1.2; omega))
        · exact lopK.on (k + 1) (by omega) (by omega) (Wk.of [] hfn rfl (by (simp only [EnvLe, VLe_refl, VLe_int, Go.Bx.get, reduceCtorEq, ↓reduceIte, true_and, and_true, eq_self, Nat.reduceEqDiff, Nat.succ_ne_self, Nat.zero_ne_one]) <;> (first | exact wS (by omega) | (rw [List.length_append]; exact wS (by omega)) | assumption)) (by simp only [OwnLe]))
      · have hkl : k = l.length := by have := of_decide_eq_false h1; omega
        subst hkl
        repeat' first
            | (first
                | refine TR.p hP (by first | exact s14) (by repeat' first | exact trivial | (intro _; assumption) | apply And.intro) ?_
                | refine TR.gp hP rfl (fun _ => by first | exact s14) (fun _ => by repeat' first | exact trivial | (intro _; assumption) | apply And.intro) ?_
                | refine TR.pv hP rfl (by first | exact s14) trivial (by repeat' first | exact trivial | (intro _; assumption) | apply And.intro) ?_
               try simp only [vcC_ret, seqK_nrm, nrmK_app, vcR_nil, vcR_n, isCall, makes, newOf, opR, evS, evV, evX, Go.Bx.get, St.stp, Ef.stp, lgs, setE, applyU, newN, Bool.false_eq_true, ↓reduceIte, true_and, eq_self])
            | refine And.intro (fun h => ?_) (fun h => ?_)
            | refine And.intro (by first | omega | (simp only [maxLen, decide_eq_true_eq, decide_eq_false_iff_not] at *; omega)) ?_
            | refine And.intro rfl ?_
            | fail
        exact RetK.pure (by simp only [rs7, ressS, resS, and_self]) (by (simp only [rs7, retV, resV, Go.Bx.get, ↓reduceIte, eq_self, VLe_refl, Go.Bx.get, ↓reduceIte, eq_self]) <;> (first | simp))
  · have e := split_bad he
    refine pure7 (by simp) rfl rfl ?_; intro c hP hfn; simp only [c7, vcC_seq, vcC_reg, vcC_skip, vcC_cond, seqK_nrm, nrmK_app, initE, vcR_nil, vcR_n, isCall, makes, slK, newOf, opR, binI, evS, evV, evX, Go.Bx.get, St.stp, Ef.stp, lgs, setE, applyU, newN, Bool.false_eq_true, reduceCtorEq, ↓reduceIte, true_and, and_self, eq_self, Nat.reduceEqDiff, Nat.zero_add, Nat.zero_ne_one]
    repeat' first
        | (first
            | refine TR.p hP (by first | exact s14 | exact c19 | exact c22) (by repeat' first | exact trivial | (intro _; assumption) | apply And.intro) ?_
            | refine TR.gp hP rfl (fun _ => by first | exact s14 | exact c19 | exact c22) (fun _ => by repeat' first | exact trivial | (intro _; assumption) | apply And.intro) ?_
            | refine TR.pv hP rfl (by first | exact s14 | exact c19 | exact c22) trivial (by repeat' first | exact trivial | (intro _; assumption) | apply And.intro) ?_
           try simp only [e, vcC_seq, vcC_reg, vcC_skip, vcC_cond, vcC_block, vcC_ret, seqK_nrm, seqK_ret, nrmK_app, vcR_nil, vcR_n, vcR_s, isCall, makes, hasU, slK, newOf, opR, binI, pickV, evS, evV, evX, gOf, Go.Bx.get, nth, St.stp, Ef.stp, lgs, setE, applyU, newN, Option.getD_some, List.length_cons, List.length_nil, List.not_mem_nil, Bool.true_and, Bool.false_eq_true, Bool.cond_true_left, ↓reduceIte, true_and, and_true, and_self, not_false_eq_true, forall_const, implies_true, imp_self, eq_self, Nat.reduceAdd, Nat.reduceEqDiff, Nat.zero_add, Nat.succ_ne_self, Nat.zero_ne_one, Nat.reduceLT, Int.cast_ofNat_Int])
        | refine And.intro (fun h => ?_) (fun h => ?_)
        | refine And.intro (by first | omega | (simp only [maxLen, decide_eq_true_eq, decide_eq_false_iff_not] at *; omega)) ?_
        | refine And.intro rfl ?_
        | fail
    · exact RetK.pure (by simp only [rs7, ressS, resS, and_self]) (by (simp only [rs7, retV, resV, Go.Bx.get, ↓reduceIte, eq_self, VLe_refl, Go.Bx.get, ↓reduceIte, eq_self]) <;> (first | simp))
    · exact RetK.pure (by simp only [rs7, ressS, resS, and_self]) (by (simp only [rs7, retV, resV, Go.Bx.get, ↓reduceIte, eq_self, VLe_refl, Go.Bx.get, ↓reduceIte, eq_self]) <;> (first | simp))
    all_goals exfalso; simp_all
theorem f8 (a b k : Int) (ha : a ≤ 9223372036854775807) (hb : b ≤ 9223372036854775807) (hc : k ≤ 9223372036854775807) :
    Ctr Try.prog 8 [.d (.int .i64 a), .d (.int .i64 b), .d (.int .i64 k)] [] (.d (.bool true)) [] [] := by
  have c12 := s12 a b k ha hb hc
  have c15 := sEven a b k ha hb hc
  rw [downR] at c12
  by_cases hz : chk a b k = 0
  · have hq := chk_ok hz
    obtain ⟨A, rfl⟩ : ∃ A : Nat, a = (A : Int) := ⟨a.toNat, by omega⟩
    obtain ⟨B, rfl⟩ : ∃ B : Nat, b = (B : Int) := ⟨b.toNat, by omega⟩
    obtain ⟨K, rfl⟩ : ∃ K : Nat, k = (K : Int) := ⟨k.toNat, by omega⟩
    have hk0 : 0 < K := by omega
    have e1 := ofR_nat (up := upD) A B K hk0
    have e2 := ofR_nat (up := upE) A B K hk0
    have c23 := s23 A B K (by omega) (by omega) (by omega) hk0
    have hr := Nat.mod_lt (A * B) hk0
    rw [twoR] at c23
    generalize A * B / K = q at *
    generalize A * B % K = r at *
    by_cases h4 : 4000000000000000000 < q
    · rw [if_pos h4] at e1 e2
      rw [e1] at c12
      rw [e2] at c15
      refine pure8 (by simp) rfl rfl ?_; intro c hP hfn; simp only [c8, vcC_seq, vcC_reg, seqK_nrm, nrmK_app, initE, vcR_nil, vcR_n, isCall, makes, newOf, opR, evS, evV, evX, Go.Bx.get, St.stp, Ef.stp, lgs, setE, applyU, newN, Bool.false_eq_true, reduceCtorEq, ↓reduceIte, true_and, eq_self, Nat.reduceAdd, Nat.reduceEqDiff, Nat.zero_add, Nat.zero_ne_one]
      repeat' first
          | (first
              | refine TR.p hP (by first | exact c12 | exact c15 | exact s14) (by repeat' first | exact trivial | (intro _; assumption) | apply And.intro) ?_
              | refine TR.gp hP rfl (fun _ => by first | exact c12 | exact c15 | exact s14) (fun _ => by repeat' first | exact trivial | (intro _; assumption) | apply And.intro) ?_
              | refine TR.pv hP rfl (by first | exact c12 | exact c15 | exact s14) trivial (by repeat' first | exact trivial | (intro _; assumption) | apply And.intro) ?_
             try simp only [vcC_seq, vcC_reg, vcC_skip, vcC_cond, vcC_ret, seqK_nrm, seqK_ret, nrmK_app, vcR_nil, vcR_n, vcR_s, isCall, makes, hasU, newOf, opR, binI, pickV, evS, evV, evX, gOf, Go.Bx.get, nth, St.stp, Ef.stp, lgs, setE, applyU, newN, Option.getD_some, List.length_cons, List.length_nil, List.not_mem_nil, Bool.and_true, Bool.true_and, Bool.and_self, Bool.not_true, Bool.or_self, Bool.false_eq_true, Bool.cond_true_left, Bool.cond_false_right, cond_true, reduceCtorEq, ↓reduceIte, true_and, and_true, and_self, false_and, not_false_eq_true, forall_const, implies_true, imp_self, eq_self, Nat.reduceAdd, Nat.reduceEqDiff, Nat.zero_add, Nat.succ_ne_self, Nat.zero_ne_one, Nat.reduceLT, beq_self_eq_true])
          | refine And.intro (fun h => ?_) (fun h => ?_)
          | refine And.intro (by first | omega | (simp only [maxLen, decide_eq_true_eq, decide_eq_false_iff_not] at *; omega)) ?_
          | refine And.intro rfl ?_
          | fail
      · exact RetK.pure (by simp only [rs8, ressS, resS, and_self]) (by (simp only [rs8, retV, resV, Go.Bx.get, ↓reduceIte, eq_self, VLe_refl, Go.Bx.get, ↓reduceIte, eq_self]) <;> (first | simp))
      · exfalso; simp at h
    · rw [if_neg h4] at e1 e2 c23
      simp only [upD, Bool.false_eq_true, if_false, Nat.add_zero, if_neg h4] at e1
      rw [e1] at c12
      have e5 : IntKind.i64.wrap ((K : Int) - (r : Int)) = ((K - r : Nat) : Int) := (wI (by omega)).trans (by omega)
      have e6 : ((q : Nat) : Int).tmod 2 = ((q % 2 : Nat) : Int) := tmod_nat q 2
      have e7 : IntKind.i64.wrap ((q : Int) + 1) = ((q + 1 : Nat) : Int) := (wI (by omega)).trans (by omega)
      have hcond : (decide ((r : Int) < ((K - r : Nat) : Int)) || ((r : Int) == ((K - r : Nat) : Int) && ((q % 2 : Nat) : Int) == 0)) = !(upE q r K) := by
        rw [Bool.eq_iff_iff]; simp only [upE, Bool.or_eq_true, Bool.and_eq_true, Bool.not_eq_true', Bool.or_eq_false_iff, Bool.and_eq_false_iff, decide_eq_true_eq, decide_eq_false_iff_not, beq_iff_eq]; omega
      cases hu : upE q r K with
      | true =>
        rw [hu] at e2 hcond
        rw [if_pos rfl] at e2
        by_cases h5 : 4000000000000000000 < q + 1
        · rw [if_pos h5] at e2
          rw [e2] at c15
          have hq5 : (q : Int) = 4000000000000000000 := by omega
          refine pure8 (by simp) rfl rfl ?_; intro c hP hfn; simp only [c8, vcC_seq, vcC_reg, seqK_nrm, nrmK_app, initE, vcR_nil, vcR_n, isCall, makes, newOf, opR, evS, evV, evX, Go.Bx.get, St.stp, Ef.stp, lgs, setE, applyU, newN, Bool.false_eq_true, reduceCtorEq, ↓reduceIte, true_and, eq_self, Nat.reduceAdd, Nat.reduceEqDiff, Nat.zero_add, Nat.zero_ne_one]
          repeat' first
              | (first
                  | refine TR.p hP (by first | exact c12 | exact c15 | exact s14) (by repeat' first | exact trivial | (intro _; assumption) | apply And.intro) ?_
                  | refine TR.gp hP rfl (fun _ => by first | exact c12 | exact c15 | exact s14) (fun _ => by repeat' first | exact trivial | (intro _; assumption) | apply And.intro) ?_
                  | refine TR.pv hP rfl (by first | exact c12 | exact c15 | exact s14) trivial (by repeat' first | exact trivial | (intro _; assumption) | apply And.intro) ?_
                 try simp only [vcC_seq, vcC_reg, vcC_skip, vcC_cond, vcC_ret, seqK_nrm, seqK_ret, nrmK_app, vcR_nil, vcR_n, vcR_s, isCall, makes, hasU, newOf, opR, binI, pickV, evS, evV, evX, gOf, Go.Bx.get, nth, St.stp, Ef.stp, lgs, setE, applyU, newN, Option.getD_some, List.length_cons, List.length_nil, List.not_mem_nil, Bool.and_true, Bool.true_and, Bool.and_self, Bool.false_eq_true, Bool.cond_true_left, cond_true, reduceCtorEq, ↓reduceIte, true_and, and_true, and_self, not_false_eq_true, forall_const, implies_true, imp_self, eq_self, Nat.reduceAdd, Nat.reduceEqDiff, Nat.zero_add, Nat.succ_ne_self, Nat.zero_ne_one, Nat.reduceLT, beq_self_eq_true])
              | refine And.intro (fun h => ?_) (fun h => ?_)
              | refine And.intro (by first | omega | (simp only [maxLen, decide_eq_true_eq, decide_eq_false_iff_not] at *; omega)) ?_
              | refine And.intro rfl ?_
              | fail
          · exact RetK.pure (by simp only [rs8, ressS, resS, and_self]) (by (simp only [rs8, retV, resV, Go.Bx.get, ↓reduceIte, eq_self, VLe_bool, Go.Bx.get, ↓reduceIte, eq_self]) <;> (first | simp [hq5]))
          · exfalso; simp at h
        · rw [if_neg h5] at e2
          rw [e2] at c15
          refine pure8 (by simp) rfl rfl ?_; intro c hP hfn; simp only [c8, vcC_seq, vcC_reg, seqK_nrm, nrmK_app, initE, vcR_nil, vcR_n, isCall, makes, newOf, opR, evS, evV, evX, Go.Bx.get, St.stp, Ef.stp, lgs, setE, applyU, newN, Bool.false_eq_true, reduceCtorEq, ↓reduceIte, true_and, eq_self, Nat.reduceAdd, Nat.reduceEqDiff, Nat.zero_add, Nat.zero_ne_one]
          repeat' first
              | (first
                  | refine TR.p hP (by first | exact c12 | exact c15 | exact s14 | exact c23) (by repeat' first | exact trivial | (intro _; assumption) | apply And.intro) ?_
                  | refine TR.gp hP rfl (fun _ => by first | exact c12 | exact c15 | exact s14 | exact c23) (fun _ => by repeat' first | exact trivial | (intro _; assumption) | apply And.intro) ?_
                  | refine TR.pv hP rfl (by first | exact c12 | exact c15 | exact s14 | exact c23) trivial (by repeat' first | exact trivial | (intro _; assumption) | apply And.intro) ?_
                 try simp only [e5, e6, e7, hcond, vcC_seq, vcC_reg, vcC_skip, vcC_cond, vcC_ret, seqK_nrm, seqK_ret, nrmK_app, vcR_nil, vcR_n, vcR_s, isCall, makes, hasU, newOf, opR, binI, pickV, evS, evV, evX, gOf, Go.Bx.get, nth, St.stp, Ef.stp, lgs, setE, applyU, newN, Option.getD_some, List.length_cons, List.length_nil, List.not_mem_nil, Bool.and_true, Bool.true_and, Bool.and_self, Bool.not_true, Bool.or_self, Bool.false_eq_true, Bool.cond_true_left, Bool.cond_false_right, cond_true, reduceCtorEq, ↓reduceIte, true_and, and_true, and_self, false_and, not_false_eq_true, forall_const, implies_true, imp_self, eq_self, ne_eq, Nat.reduceAdd, Nat.reduceEqDiff, Nat.zero_add, Nat.succ_ne_self, Nat.zero_ne_one, Nat.reduceLT, beq_self_eq_true])
              | refine And.intro (fun h => ?_) (fun h => ?_)
              | refine And.intro (by first | omega | (simp only [maxLen, decide_eq_true_eq, decide_eq_false_iff_not] at *; omega)) ?_
              | refine And.intro rfl ?_
              | fail
          · exfalso; simp at h
          · exact RetK.pure (by simp only [rs8, ressS, resS, and_self]) (by (simp only [rs8, retV, resV, Go.Bx.get, ↓reduceIte, eq_self, VLe_bool, Go.Bx.get, ↓reduceIte, eq_self]) <;> (first | (simp; done) | (simp; omega)))
      | false =>
        rw [hu] at e2 hcond
        simp only [Bool.false_eq_true, if_false, Nat.add_zero, if_neg h4] at e2
        rw [e2] at c15
        refine pure8 (by simp) rfl rfl ?_; intro c hP hfn; simp only [c8, vcC_seq, vcC_reg, seqK_nrm, nrmK_app, initE, vcR_nil, vcR_n, isCall, makes, newOf, opR, evS, evV, evX, Go.Bx.get, St.stp, Ef.stp, lgs, setE, applyU, newN, Bool.false_eq_true, reduceCtorEq, ↓reduceIte, true_and, eq_self, Nat.reduceAdd, Nat.reduceEqDiff, Nat.zero_add, Nat.zero_ne_one]
        repeat' first
            | (first
                | refine TR.p hP (by first | exact c12 | exact c15 | exact s14 | exact c23) (by repeat' first | exact trivial | (intro _; assumption) | apply And.intro) ?_
                | refine TR.gp hP rfl (fun _ => by first | exact c12 | exact c15 | exact s14 | exact c23) (fun _ => by repeat' first | exact trivial | (intro _; assumption) | apply And.intro) ?_
                | refine TR.pv hP rfl (by first | exact c12 | exact c15 | exact s14 | exact c23) trivial (by repeat' first | exact trivial | (intro _; assumption) | apply And.intro) ?_
               try simp only [e5, e6, e7, hcond, vcC_seq, vcC_reg, vcC_skip, vcC_cond, vcC_ret, seqK_nrm, seqK_ret, nrmK_app, vcR_nil, vcR_n, vcR_s, isCall, makes, hasU, newOf, opR, binI, pickV, evS, evV, evX, gOf, Go.Bx.get, nth, St.stp, Ef.stp, lgs, setE, applyU, newN, Option.getD_some, List.length_cons, List.length_nil, List.not_mem_nil, Bool.and_true, Bool.true_and, Bool.and_self, Bool.not_true, Bool.not_false, Bool.or_self, Bool.false_eq_true, Bool.cond_true_left, Bool.cond_false_right, cond_true, reduceCtorEq, ↓reduceIte, true_and, and_true, and_self, false_and, not_false_eq_true, forall_const, implies_true, imp_self, eq_self, ne_eq, Nat.reduceAdd, Nat.reduceEqDiff, Nat.zero_add, Nat.succ_ne_self, Nat.zero_ne_one, Nat.reduceLT, beq_self_eq_true])
            | refine And.intro (fun h => ?_) (fun h => ?_)
            | refine And.intro (by first | omega | (simp only [maxLen, decide_eq_true_eq, decide_eq_false_iff_not] at *; omega)) ?_
            | refine And.intro rfl ?_
            | fail
        · exfalso; simp at h
        · exact RetK.pure (by simp only [rs8, ressS, resS, and_self]) (by (simp only [rs8, retV, resV, Go.Bx.get, ↓reduceIte, eq_self, VLe_refl, Go.Bx.get, ↓reduceIte, eq_self]) <;> (first | (simp; done) | (simp; omega)))
  · have e1 := of_chk (up := upD) hz
    have e2 := of_chk (up := upE) hz
    rw [e1] at c12
    rw [e2] at c15
    generalize chk a b k = z at *
    refine pure8 (by simp) rfl rfl ?_; intro c hP hfn; simp only [c8, vcC_seq, vcC_reg, seqK_nrm, nrmK_app, initE, vcR_nil, vcR_n, isCall, makes, newOf, opR, evS, evV, evX, Go.Bx.get, St.stp, Ef.stp, lgs, setE, applyU, newN, Bool.false_eq_true, reduceCtorEq, ↓reduceIte, true_and, eq_self, Nat.reduceAdd, Nat.reduceEqDiff, Nat.zero_add, Nat.zero_ne_one]
    repeat' first
        | (first
            | refine TR.p hP (by first | exact c12 | exact c15 | exact s14) (by repeat' first | exact trivial | (intro _; assumption) | apply And.intro) ?_
            | refine TR.gp hP rfl (fun _ => by first | exact c12 | exact c15 | exact s14) (fun _ => by repeat' first | exact trivial | (intro _; assumption) | apply And.intro) ?_
            | refine TR.pv hP rfl (by first | exact c12 | exact c15 | exact s14) trivial (by repeat' first | exact trivial | (intro _; assumption) | apply And.intro) ?_
           try simp only [vcC_seq, vcC_reg, vcC_skip, vcC_cond, vcC_ret, seqK_nrm, seqK_ret, nrmK_app, vcR_nil, vcR_n, vcR_s, isCall, makes, hasU, newOf, opR, binI, pickV, evS, evV, evX, gOf, Go.Bx.get, nth, St.stp, Ef.stp, lgs, setE, applyU, newN, Option.getD_some, List.length_cons, List.length_nil, List.not_mem_nil, Bool.true_and, Bool.and_self, Bool.not_true, Bool.or_self, Bool.false_eq_true, Bool.cond_true_left, Bool.cond_false_right, cond_true, reduceCtorEq, ↓reduceIte, true_and, and_true, and_self, false_and, not_false_eq_true, forall_const, implies_true, imp_self, eq_self, Nat.reduceAdd, Nat.reduceEqDiff, Nat.zero_add, Nat.succ_ne_self, Nat.zero_ne_one, Nat.reduceLT, beq_self_eq_true])
        | refine And.intro (fun h => ?_) (fun h => ?_)
        | refine And.intro (by first | omega | (simp only [maxLen, decide_eq_true_eq, decide_eq_false_iff_not] at *; omega)) ?_
        | refine And.intro rfl ?_
        | fail
    · exact RetK.pure (by simp only [rs8, ressS, resS, and_self]) (by (simp only [rs8, retV, resV, Go.Bx.get, ↓reduceIte, eq_self, VLe_refl, Go.Bx.get, ↓reduceIte, eq_self]) <;> (first | simp))
    · exfalso; simp at h; exact hz h
theorem f9 (a b k y z : Int) (ha : a ≤ 9223372036854775807) (hb : b ≤ 9223372036854775807) (hc : k ≤ 9223372036854775807) (hy : y ≤ 9223372036854775807) (hz : z ≤ 9223372036854775807) :
    Ctr Try.prog 9 [.ag [.d (.int .i64 a), .d (.int .i64 b), .d (.int .i64 k)], .ag [.d (.int .i64 y), .d (.int .i64 z)]] [] (.d (.bool true)) [] [] := by
  have c1 := s12 a b k ha hb hc
  have c2 := s12 b a k hb ha hc
  rw [down_comm] at c2
  have c3 := s12 a (max b y) k ha (by omega) hc
  have c4 := s12 a b (max k z) ha hb (by omega)
  have g1 := @down_more a b k y
  have g2 := @down_less a b k z
  generalize downR a b k = X at *
  generalize downR a (max b y) k = Y at *
  generalize downR a b (max k z) = Z at *
  obtain ⟨X1, X2⟩ := X
  obtain ⟨Y1, Y2⟩ := Y
  obtain ⟨Z1, Z2⟩ := Z
  simp only at c1 c2 c3 c4 g1 g2
  refine pure9 (by simp) rfl rfl ?_; intro c hP hfn; simp only [c9, vcC_seq, vcC_reg, vcC_drw, seqK_nrm, nrmK_app, drwK_app, initE, vcR_nil, vcR_n, isCall, makes, newOf, opR, evS, evV, evX, Go.Bx.get, Go.Bx.own?, cellsV, isCell, cut, nth, St.stp, Ef.stp, Stp.lg, lgs, setE, applyU, setO, newN, Option.getD_some, List.all_cons, List.all_nil, List.map_nil, List.append_nil, List.nil_append, List.cons_append, List.length_cons, List.length_nil, List.mem_cons, List.not_mem_nil, Bool.and_self, Bool.false_eq_true, ↓reduceIte, true_and, and_self, or_false, not_false_eq_true, eq_self, Nat.reduceAdd, Nat.reduceLeDiff, Nat.reduceEqDiff, Nat.zero_add, Nat.add_zero, Nat.le_refl, Nat.succ_ne_self, Nat.zero_ne_one, Int.le_refl, Int.cast_ofNat_Int, Int.reduceToNat, Int.reduceLT, Int.reduceLE, Nat.mul_one]
  repeat' first
      | (first
          | refine TR.p hP (by first | exact c1 | exact c2 | exact c3 | exact c4 | exact s14) (by repeat' first | exact trivial | (intro _; assumption) | apply And.intro) ?_
          | refine TR.gp hP rfl (fun _ => by first | exact c1 | exact c2 | exact c3 | exact c4 | exact s14) (fun _ => by repeat' first | exact trivial | (intro _; assumption) | apply And.intro) ?_
          | refine TR.pv hP rfl (by first | exact c1 | exact c2 | exact c3 | exact c4 | exact s14) trivial (by repeat' first | exact trivial | (intro _; assumption) | apply And.intro) ?_
         try simp only [vcC_seq, vcC_reg, vcC_skip, vcC_cond, vcC_ret, seqK_nrm, seqK_ret, nrmK_app, vcR_nil, vcR_n, vcR_s, isCall, makes, hasU, newOf, opR, binI, pickV, evS, evV, evX, gOf, Go.Bx.get, Go.Bx.own?, cut, nth, St.stp, Ef.stp, lgs, setE, applyU, newN, Option.getD_some, List.length_cons, List.length_nil, List.mem_cons, List.not_mem_nil, Bool.true_and, Bool.and_self, Bool.false_eq_true, Bool.cond_true_left, Bool.cond_false_right, cond_true, ↓reduceIte, true_and, and_true, and_self, or_false, not_false_eq_true, forall_const, implies_true, imp_self, eq_self, Nat.reduceAdd, Nat.reduceLeDiff, Nat.reduceEqDiff, Nat.zero_add, Nat.add_zero, Nat.le_refl, Nat.succ_ne_self, Nat.reduceLT, Int.le_refl, Int.cast_ofNat_Int, Int.reduceToNat, Int.reduceLT, Int.reduceLE, Nat.mul_one])
      | refine And.intro (fun h => ?_) (fun h => ?_)
      | refine And.intro (by first | omega | (simp only [maxLen, decide_eq_true_eq, decide_eq_false_iff_not] at *; omega)) ?_
      | refine And.intro rfl ?_
      | fail
  · exfalso; simp at h
  · exfalso
    simp only [Bool.or_eq_true, Bool.and_eq_true, decide_eq_true_eq, beq_iff_eq] at h
    rcases h with h | h
    · have := g1 h.1.1 h.1.2; omega
    · have := (g2 h.1.1).2; omega
  · by_cases hX : X2 = 0
    · have := (g2 hX).1
      exact RetK.pure (by simp only [rs9, ressS, resS, and_self]) (by (simp only [rs9, retV, resV, Go.Bx.get, ↓reduceIte, eq_self, VLe_bool, Go.Bx.get, ↓reduceIte, eq_self]) <;> (first | simp [this]))
    · exact RetK.pure (by simp only [rs9, ressS, resS, and_self]) (by (simp only [rs9, retV, resV, Go.Bx.get, ↓reduceIte, eq_self, VLe_bool, Go.Bx.get, ↓reduceIte, eq_self]) <;> (first | simp [hX]))
end Go.Proofs.Ytgeidjhobbndjaa
