import Derived.Test.YtllakgjfgdgfiaaD
namespace Go.Proofs.Ytllakgjfgdgfiaa
open Go.Bx

theorem addR_app (acc : Int) (pf : Int → Bool) : ∀ (b : List Ent) (e : Ent) (n : Int), addR acc pf n (b ++ [e]) = if pf e.day = true then accL acc (addR acc pf n b) e.ls else addR acc pf n b
  | [], e, n => by simp only [List.nil_append, addR]
  | x :: r, e, n => by simp only [List.cons_append, addR, addR_app acc pf r e]

theorem later_spec (l : List Ent) (z0 z1 : Int) (e : Ent) (hl : l.length ≤ 9223372036854775807) (hll : ∀ e, e ∈ l → e.ls.length ≤ 9223372036854775807) (he : e.ls.length ≤ 9223372036854775807) :
    Ctr Try.prog 6 [.d (slB l), .ag [.d (.int .i64 z0), .d (.int .i64 z1)], vE e] [] (.d (.bool true)) [] [] := by
  refine pure6 (by simp) rfl rfl ?_
  intro c hP hfn
  simp only [c6, vE, vcC_seq, vcC_reg, seqK_nrm, nrmK_app, initE, vcR_nil, vcR_n, isCall, makes, newOf, opR, evS, evV, evX, Go.Bx.get, cellsV, isCell, St.stp, Ef.stp, lgs, setE, applyU, setO, newN, Option.getD_some, List.all_cons, List.all_nil, List.mem_cons, List.not_mem_nil, Bool.and_self, Bool.false_eq_true, reduceCtorEq, ↓reduceIte, true_and, and_self, or_false, not_false_eq_true, eq_self, Nat.reduceAdd, Nat.reduceEqDiff, Nat.zero_add, Nat.succ_ne_self, Nat.zero_ne_one]
  refine TR.pure (hP ▸ few_spec l hl) (by simp only [evS, evX, evSs, Go.Bx.get, ↓reduceIte, and_self, eq_self]) ?_
  simp only [slL, vcC_seq, vcC_reg, vcC_skip, vcC_cond, seqK_nrm, nrmK_app, vcR_nil, vcR_n, vcR_s, isCall, makes, isStore, newOf, opR, binI, pickV, evS, evV, evX, gOf, Go.Bx.get, Go.Bx.own?, cut, nth, St.stp, Ef.stp, lgs, setE, applyU, newN, List.length_cons, List.length_nil, Bool.true_and, Bool.or_self, Bool.false_eq_true, Bool.cond_true_left, reduceCtorEq, ↓reduceIte, true_and, and_true, and_self, forall_const, implies_true, imp_self, eq_self, Nat.reduceAdd, Nat.reduceEqDiff, Nat.zero_add, Nat.le_refl, Nat.succ_ne_self]
  refine ⟨fun h => ?_, fun h => ?_⟩
  · refine TR.pure (hP ▸ alive_spec) (by simp only [evSs]) ?_
    simp only [vcC_ret, seqK_nrm, seqK_ret, nrmK_app, vcR_nil, vcR_n, isCall, makes, newOf, opR, evS, evV, evX, Go.Bx.get, St.stp, Ef.stp, lgs, setE, applyU, newN, Bool.false_eq_true, ↓reduceIte, true_and, eq_self]
    exact RetK.pure (by simp only [rs6, ressS, resS, and_self]) (by simp only [rs6, retV, resV, Go.Bx.get, ↓reduceIte, eq_self, VLe_refl, Go.Bx.get, ↓reduceIte, eq_self])
  · have hok := okB_made l [] okB_nil
    refine TR.pure (hP ▸ made_spec l hl hll) (by simp only [evS, evX, evSs, Go.Bx.get, ↓reduceIte, and_self, eq_self]) ?_
    generalize madeR [] l = b at *
    simp only [vB, vcC_seq, vcC_reg, seqK_nrm, nrmK_app, vcR_nil, vcR_n, isCall, makes, newOf, opR, evS, evV, evX, Go.Bx.get, Go.Bx.own?, cellsV, isCell, cut, dropV, takeV, putV, St.stp, Ef.stp, lgs, setE, applyU, setO, newN, Option.getD_some, List.all_cons, List.all_nil, List.length_cons, List.length_nil, List.mem_cons, List.not_mem_nil, Bool.and_self, Bool.false_eq_true, ↓reduceIte, true_and, and_self, or_false, not_false_eq_true, eq_self, Nat.reduceAdd, Nat.reduceEqDiff, Nat.zero_add, Nat.le_refl, Nat.succ_ne_self]
    refine TR.pure (hP ▸ put_spec b e he) (by simp only [evS, evX, evSs, Go.Bx.get, ↓reduceIte, and_self, eq_self, Nat.succ_ne_self]) ?_
    simp only [vB, vcC_seq, vcC_reg, vcC_drw, vcC_skip, vcC_cond, seqK_nrm, nrmK_app, vcR_nil, vcR_n, vcR_s, isCall, makes, isStore, newOf, opR, binI, pickV, evS, evV, evX, gOf, Go.Bx.get, Go.Bx.own?, cellsV, isCell, cut, nth, putV, St.stp, Ef.stp, lgs, setE, applyU, setO, newN, Option.getD_some, List.all_cons, List.all_nil, List.length_cons, List.length_nil, List.mem_cons, List.not_mem_nil, Bool.true_and, Bool.and_self, Bool.or_self, Bool.false_eq_true, Bool.cond_true_left, ↓reduceIte, true_and, and_true, and_self, or_false, not_false_eq_true, forall_const, implies_true, imp_self, eq_self, Nat.reduceAdd, Nat.reduceLeDiff, Nat.reduceEqDiff, Nat.zero_add, Nat.add_zero, Nat.le_refl, Nat.succ_ne_self, Nat.reduceLT, Int.cast_ofNat_Int, Int.reduceToNat, Int.reduceLT, Int.reduceLE, Nat.mul_one]
    refine ⟨fun h2 => ?_, fun h2 => ?_⟩
    · refine TR.pure (hP ▸ alive_spec) (by simp only [evSs]) ?_
      simp only [vcC_ret, seqK_nrm, seqK_ret, nrmK_app, vcR_nil, vcR_n, isCall, makes, newOf, opR, evS, evV, evX, Go.Bx.get, St.stp, Ef.stp, lgs, setE, applyU, newN, Bool.false_eq_true, ↓reduceIte, true_and, eq_self]
      exact RetK.pure (by simp only [rs6, ressS, resS, and_self]) (by simp only [rs6, retV, resV, Go.Bx.get, ↓reduceIte, eq_self, VLe_refl, Go.Bx.get, ↓reduceIte, eq_self])
    · simp only [Bool.or_eq_false_iff, bne_eq_false_iff_eq, decide_eq_false_iff_not] at h2
      obtain ⟨h3, h4⟩ := h2
      have hx := okB_put hok h3
      have hxe := (put_ok h3).2.2.2.2
      rw [hxe] at hx ⊢
      have hday : ¬ decide (e.day ≤ z1) = true := by simp; omega
      have hbal : ∀ acc : Int, addR acc (fun d => decide (d ≤ z1)) 0 (b ++ [e]) = addR acc (fun d => decide (d ≤ z1)) 0 b := fun acc => by
        rw [addR_app, if_neg hday]
      have htri : trialR (b ++ [e]) z1 = trialR b z1 := by funext i; simp only [trialR, hbal]
      have hlen : IntKind.i64.wrap ((b.length : Int) + 1) = ((b ++ [e]).length : Int) := by
        have := hok.1
        refine (IntWalk.i64_in _ (by omega)).trans ?_
        simp
      refine TR.pure (hP ▸ alive_spec) (by simp only [evSs]) ?_
      simp only [vcR_n, vcR_s, isCall, makes, isStore, newOf, opR, evS, evV, evX, gOf, Go.Bx.get, Go.Bx.own?, cut, nth, dropV, takeV, St.stp, Ef.stp, Stp.lg, lgs, setE, applyU, newN, List.map_nil, List.append_nil, List.nil_append, List.cons_append, List.length_cons, List.length_nil, Bool.or_self, Bool.false_eq_true, ↓reduceIte, true_and, and_self, forall_const, eq_self, Nat.reduceAdd, Nat.reduceLeDiff, Nat.reduceEqDiff, Nat.zero_add, Nat.add_zero, Nat.le_refl, Nat.succ_ne_self, Int.le_refl, Int.cast_ofNat_Int, Int.reduceToNat, Int.reduceLT, Int.reduceLE, Nat.mul_one]
      refine TR.gpure (gc := true) rfl (fun _ => hP ▸ balance_spec _ z0 z1 (okB_len hx) (okB_lines hx)) (fun _ => by simp only [evS, evX, evSs, Go.Bx.get, ↓reduceIte, and_self, forall_const, eq_self, Nat.reduceEqDiff, Nat.succ_ne_self]) ?_
      simp only [vcR_s, isCall, makes, isStore, opR, evS, evV, evX, gOf, Go.Bx.get, Go.Bx.own?, cut, nth, dropV, takeV, St.stp, lgs, setE, applyU, newN, List.nil_append, List.cons_append, List.length_cons, List.length_nil, Bool.or_self, Bool.false_eq_true, ↓reduceIte, true_and, and_self, forall_const, eq_self, Nat.reduceAdd, Nat.reduceLeDiff, Nat.reduceEqDiff, Nat.zero_add, Nat.add_zero, Nat.le_refl, Nat.succ_ne_self, Int.le_refl, Int.cast_ofNat_Int, Int.reduceToNat, Int.reduceLT, Int.reduceLE, Nat.mul_one]
      refine TR.gpure (gc := true) rfl (fun _ => hP ▸ balance_spec _ z0 z1 (okB_len hok) (okB_lines hok)) (fun _ => by simp only [evS, evX, evSs, Go.Bx.get, ↓reduceIte, and_self, forall_const, eq_self, Nat.reduceEqDiff, Nat.succ_ne_self]) ?_
      simp only [hbal, vcR_n, vcR_s, isCall, makes, isStore, newOf, opR, binI, pickV, evS, evV, evX, gOf, Go.Bx.get, Go.Bx.own?, cut, nth, dropV, takeV, St.stp, Ef.stp, Stp.lg, lgs, setE, applyU, newN, List.map_nil, List.append_nil, List.nil_append, List.cons_append, List.length_cons, List.length_nil, Bool.and_self, Bool.or_self, Bool.false_eq_true, cond_true, ↓reduceIte, true_and, and_self, forall_const, eq_self, Nat.reduceAdd, Nat.reduceEqDiff, Nat.zero_add, Nat.le_refl, Nat.succ_ne_self, Int.cast_ofNat_Int, Int.reduceToNat, Int.reduceLT, Int.reduceLE, beq_self_eq_true, Nat.mul_one]
      refine TR.gpure (gc := true) rfl (fun _ => hP ▸ trial_spec _ z1 (okB_len hx) (okB_lines hx)) (fun _ => by simp only [evS, evX, evSs, Go.Bx.get, ↓reduceIte, and_self, forall_const, eq_self, Nat.reduceEqDiff, Nat.succ_ne_self]) ?_
      simp only [vcR_s, isCall, makes, isStore, opR, evS, evV, evX, gOf, Go.Bx.get, Go.Bx.own?, cut, nth, dropV, takeV, St.stp, lgs, setE, applyU, newN, List.nil_append, List.cons_append, List.length_cons, List.length_nil, Bool.or_self, Bool.false_eq_true, ↓reduceIte, true_and, and_self, forall_const, eq_self, Nat.reduceAdd, Nat.reduceEqDiff, Nat.zero_add, Nat.le_refl, Nat.succ_ne_self, Int.cast_ofNat_Int, Int.reduceToNat, Int.reduceLT, Int.reduceLE, Nat.mul_one]
      refine TR.gpure (gc := true) rfl (fun _ => hP ▸ trial_spec _ z1 (okB_len hok) (okB_lines hok)) (fun _ => by simp only [evS, evX, evSs, Go.Bx.get, ↓reduceIte, and_self, forall_const, eq_self, Nat.reduceEqDiff, Nat.succ_ne_self]) ?_
      simp only [htri, arr10, slB, hlen, vcC_ret, seqK_nrm, drwK_app, vcR_nil, vcR_n, vcR_s, isCall, makes, isStore, newOf, opR, binI, pickV, evS, evV, evX, gOf, Go.Bx.get, Go.Bx.own?, cut, nth, St.stp, Ef.stp, Stp.lg, lgs, setE, applyU, newN, List.map_nil, List.append_nil, List.nil_append, List.cons_append, List.length_cons, List.length_nil, Bool.and_self, Bool.or_self, Bool.false_eq_true, cond_true, ↓reduceIte, true_and, and_self, forall_const, eq_self, Nat.reduceAdd, Nat.reduceEqDiff, Nat.zero_add, Nat.add_zero, Nat.le_refl, Nat.succ_ne_self, eqS, eqB, beq_self_eq_true]
      refine ⟨rfl, ?_⟩
      exact RetK.pure (by simp only [rs6, ressS, resS, and_self]) (by simp only [rs6, retV, resV, Go.Bx.get, ↓reduceIte, eq_self, VLe_refl, Go.Bx.get, ↓reduceIte, eq_self])

end Go.Proofs.Ytllakgjfgdgfiaa
