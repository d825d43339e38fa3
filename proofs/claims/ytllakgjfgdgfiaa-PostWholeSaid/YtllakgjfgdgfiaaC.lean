import Derived.Test.YtllakgjfgdgfiaaB
namespace Go.Proofs.Ytllakgjfgdgfiaa
open Go.Bx

/-! Sums, exact; what the code computes is their remainder. -/
def W (n : Int) : Int := IntKind.i64.wrap n
theorem W_def (n : Int) : IntKind.i64.wrap n = W n := rfl
theorem W_eq (n : Int) : W n = (n + 9223372036854775808) % 18446744073709551616 - 9223372036854775808 := by
  rw [W, IntKind.wrap_i64]
theorem W_add (a b : Int) : W (W a + b) = W (a + b) := by simp only [W_eq]; omega
theorem W_add' (a b : Int) : W (a + W b) = W (a + b) := by simp only [W_eq]; omega
theorem W_sub (a b : Int) : W (W a - W b) = W (a - b) := by simp only [W_eq]; omega
theorem W_W (a : Int) : W (W a) = W a := by simp only [W_eq]; omega
theorem W_zero : W 0 = 0 := by simp only [W_eq]; omega

def accT (acc : Int) : List (Int × Int) → Int
  | [] => 0
  | l :: r => (if (l.1 == acc) = true then l.2 else 0) + accT acc r
def addT (acc : Int) (pf : Int → Bool) : List Ent → Int
  | [] => 0
  | e :: r => (if pf e.day = true then accT acc e.ls else 0) + addT acc pf r

theorem accL_eq (acc : Int) : ∀ (ls : List (Int × Int)) (n : Int), W n = n → accL acc n ls = W (n + accT acc ls)
  | [], n, h => by simp only [accL, accT, Int.add_zero, h]
  | l :: r, n, h => by
    simp only [accL, accT, W_def]
    by_cases hl : (l.1 == acc) = true
    · rw [if_pos hl, if_pos hl, accL_eq acc r _ (W_W _), W_add, Int.add_assoc]
    · rw [if_neg hl, if_neg hl, accL_eq acc r n h, Int.zero_add]
theorem addR_eq (acc : Int) (pf : Int → Bool) : ∀ (b : List Ent) (n : Int), W n = n → addR acc pf n b = W (n + addT acc pf b)
  | [], n, h => by simp only [addR, addT, Int.add_zero, h]
  | e :: r, n, h => by
    simp only [addR, addT]
    by_cases hl : pf e.day = true
    · rw [if_pos hl, if_pos hl, accL_eq acc e.ls n h, addR_eq acc pf r _ (W_W _), W_add, Int.add_assoc]
    · rw [if_neg hl, if_neg hl, addR_eq acc pf r n h, Int.zero_add]
theorem addR_T (acc : Int) (pf : Int → Bool) (b : List Ent) : addR acc pf 0 b = W (addT acc pf b) := by
  rw [addR_eq acc pf b 0 W_zero, Int.zero_add]

theorem of_spec (e : Ent) (acc : Int) (hl : e.ls.length ≤ 9223372036854775807) : Ctr Try.prog 30 [vE e, .d (.int .i64 acc)] [] (.d (.int .i64 (accL acc 0 e.ls))) [] [] := by
  obtain ⟨day, fo, ls⟩ := e
  simp only at hl
  refine pure30 (by simp) rfl rfl ?_
  intro c hP hfn
  simp only [c30, vE, vcC_seq, vcC_reg, vcC_block, seqK_nrm, nrmK_app, initE, vcR_nil, vcR_n, isCall, makes, newOf, opR, evS, evV, evX, Go.Bx.get, cellsV, isCell, St.stp, Ef.stp, lgs, setE, applyU, setO, newN, Option.getD_some, List.all_cons, List.all_nil, List.not_mem_nil, Bool.and_self, Bool.false_eq_true, ↓reduceIte, true_and, and_self, not_false_eq_true, eq_self, Nat.zero_add]
  refine vcC.loop (X := Nat × Int) (fun x => ⟨[(1, .d (.int .i64 acc)), (2, .own 2 0), (5, .d (.int .i64 x.2)), (6, .d (.int .i64 x.1))],
     [(2, .fix [.d (.int .i64 day), .d (.int .i64 fo), .d (slL ls)])], [2]⟩)
    (fun x => x.1 ≤ ls.length ∧ accL acc 0 ls = accL acc x.2 (ls.drop x.1)) (fun x => ls.length - x.1) (0, 0) ⟨Nat.zero_le _, rfl⟩ (Wk.of [] hfn rfl ?_ ?_) ?_
  · simp only [EnvLe, VLe_refl, Go.Bx.get, ↓reduceIte, and_self, eq_self, Nat.reduceEqDiff, Nat.succ_ne_self, Nat.zero_ne_one, Int.cast_ofNat_Int]
  · simp only [OwnLe, OLe_refl, exists_eq_left', Option.some.injEq, Go.Bx.own?, ↓reduceIte, and_self, eq_self]
  · rintro ⟨k, s⟩ ⟨hk, he⟩
    simp only at hk he
    simp only [slL, vcC_seq, vcC_reg, vcC_skip, vcC_cond, vcC_block, vcC_exit, vcC_ret, seqK_nrm, seqK_exit, blkK_nrm, blkK_exit, lopK_exit, nrmK_app, vcR_nil, vcR_n, isCall, makes, newOf, opR, binI, evS, evV, evX, Go.Bx.get, Go.Bx.own?, cut, cutD, nth, nthD, dropD, St.stp, Ef.stp, lgs, setE, applyU, newN, List.length_cons, List.length_nil, Bool.false_eq_true, ↓reduceIte, true_and, and_true, and_self, eq_self, Nat.reduceAdd, Nat.reduceLeDiff, Nat.reduceEqDiff, Nat.zero_add, Nat.le_refl, Nat.succ_ne_self, Int.toNat_natCast]
    refine ⟨fun h1 => ?_, fun h1 => ?_⟩
    · have hlt : k < ls.length := by simpa using h1
      have hd : ls.drop k = ls[k] :: ls.drop (k + 1) := List.drop_eq_getElem_cons hlt
      have hg : ls.getD k (0, 0) = ls[k] := by simp [hlt]
      have hw : IntKind.i64.wrap ((k : Int) + 1) = ((k + 1 : Nat) : Int) := (IntWalk.i64_in _ (by omega)).trans (by omega)
      rw [hg]
      refine ⟨by omega, fun h2 => ⟨by omega, ?_⟩, fun h2 => ?_⟩
      · refine lopK.on (k + 1, IntKind.i64.wrap (s + ls[k].2)) ⟨hlt, ?_⟩ (by simp only; omega) (Wk.of [] hfn rfl ?_ ?_)
        · rw [he, hd, accL, if_pos h2]
        · simp only [EnvLe, VLe_refl, VLe_int, Go.Bx.get, ↓reduceIte, true_and, and_true, eq_self, Nat.reduceEqDiff, Nat.succ_ne_self]; exact hw
        · simp only [OwnLe, OLe_refl, exists_eq_left', Option.some.injEq, Go.Bx.own?, ↓reduceIte, and_self, eq_self]
      · refine lopK.on (k + 1, s) ⟨hlt, ?_⟩ (by simp only; omega) (Wk.of [] hfn rfl ?_ ?_)
        · rw [he, hd, accL, if_neg (by rw [h2]; simp)]
        · simp only [EnvLe, VLe_refl, VLe_int, Go.Bx.get, ↓reduceIte, true_and, and_true, eq_self, Nat.reduceEqDiff, Nat.succ_ne_self]; exact hw
        · simp only [OwnLe, OLe_refl, exists_eq_left', Option.some.injEq, Go.Bx.own?, ↓reduceIte, and_self, eq_self]
    · have hkl : k = ls.length := by simp at h1; omega
      have : accL acc 0 ls = s := by rw [he, hkl]; simp [accL]
      exact RetK.pure (by simp only [rs30, ressS, resS, and_self]) (by simp only [rs30, retV, resV, Go.Bx.get, ↓reduceIte, eq_self, VLe_refl, Go.Bx.get, ↓reduceIte, eq_self, this])

/-- The document's way: an entry's amounts first, then all of them. -/
def refR (acc : Int) (pf : Int → Bool) : Int → List Ent → Int
  | n, [] => n
  | n, e :: r => refR acc pf (if pf e.day = true then IntKind.i64.wrap (n + accL acc 0 e.ls) else n) r
theorem refR_eq (acc : Int) (pf : Int → Bool) : ∀ (b : List Ent) (n : Int), W n = n → refR acc pf n b = W (n + addT acc pf b)
  | [], n, h => by simp only [refR, addT, Int.add_zero, h]
  | e :: r, n, h => by
    simp only [refR, addT, W_def]
    by_cases hl : pf e.day = true
    · rw [if_pos hl, if_pos hl, accL_eq acc e.ls 0 W_zero, W_add', refR_eq acc pf r _ (W_W _), W_add, Int.zero_add, Int.add_assoc]
    · rw [if_neg hl, if_neg hl, refR_eq acc pf r n h, Int.zero_add]
theorem refR_addR (acc : Int) (pf : Int → Bool) (b : List Ent) : refR acc pf 0 b = addR acc pf 0 b := by
  rw [refR_eq acc pf b 0 W_zero, addR_eq acc pf b 0 W_zero]

theorem rbalance_spec (b : List Ent) (acc day : Int) (hb : b.length ≤ 9223372036854775807) (hbl : ∀ e, e ∈ b → e.ls.length ≤ 9223372036854775807) :
    Ctr Try.prog 15 [vB b, .d (.int .i64 acc), .d (.int .i64 day)] [] (.d (.int .i64 (addR acc (fun d => decide (d ≤ day)) 0 b))) [] [] := by
  refine pure15 (by simp) rfl rfl ?_
  intro c hP hfn
  simp only [c15, vB, vcC_seq, vcC_reg, vcC_block, seqK_nrm, nrmK_app, initE, vcR_nil, vcR_n, isCall, makes, newOf, opR, evS, evV, evX, Go.Bx.get, cellsV, isCell, St.stp, Ef.stp, lgs, setE, applyU, setO, newN, Option.getD_some, List.all_cons, List.all_nil, List.not_mem_nil, Bool.and_self, Bool.false_eq_true, ↓reduceIte, true_and, and_self, not_false_eq_true, eq_self, Nat.reduceAdd, Nat.zero_add]
  refine vcC.loop (X := Nat × Int) (fun x => ⟨[(1, .d (.int .i64 acc)), (2, .d (.int .i64 day)), (3, .own 3 0), (7, .d (.int .i64 x.2)), (8, .d (.int .i64 x.1))],
     [(3, .fix [.d (slB b)])], [3]⟩)
    (fun x => x.1 ≤ b.length ∧ refR acc (fun d => decide (d ≤ day)) 0 b = refR acc (fun d => decide (d ≤ day)) x.2 (b.drop x.1)) (fun x => b.length - x.1) (0, 0) ⟨Nat.zero_le _, rfl⟩ (Wk.of [] hfn rfl ?_ ?_) ?_
  · simp only [EnvLe, VLe_refl, Go.Bx.get, reduceCtorEq, ↓reduceIte, and_self, eq_self, Nat.reduceEqDiff, Nat.succ_ne_self, Nat.zero_ne_one, Int.cast_ofNat_Int]
  · simp only [OwnLe, OLe_refl, exists_eq_left', Option.some.injEq, Go.Bx.own?, ↓reduceIte, and_self, eq_self]
  · rintro ⟨k, s⟩ ⟨hk, he⟩
    simp only at hk he
    simp only [slB, vcC_seq, vcC_reg, vcC_skip, vcC_cond, vcC_block, vcC_exit, vcC_ret, seqK_nrm, seqK_exit, blkK_nrm, blkK_exit, lopK_exit, nrmK_app, vcR_nil, vcR_n, isCall, makes, newOf, opR, binI, evS, evV, evX, Go.Bx.get, Go.Bx.own?, cut, cutD, nth, nthD, dropD, takeDV, St.stp, Ef.stp, lgs, setE, applyU, newN, List.length_cons, List.length_nil, Bool.false_eq_true, ↓reduceIte, true_and, and_true, and_self, eq_self, Nat.reduceAdd, Nat.reduceLeDiff, Nat.reduceEqDiff, Nat.zero_add, Nat.add_zero, Nat.le_refl, Nat.succ_ne_self, Int.toNat_natCast]
    refine ⟨fun h1 => ?_, fun h1 => ?_⟩
    · have hlt : k < b.length := by simpa using h1
      have hd : b.drop k = b[k] :: b.drop (k + 1) := List.drop_eq_getElem_cons hlt
      have hgd : b.getD k default = b[k] := by simp [hlt]
      have hll := hbl b[k] (List.getElem_mem hlt)
      have hw : IntKind.i64.wrap ((k : Int) + 1) = ((k + 1 : Nat) : Int) := (IntWalk.i64_in _ (by omega)).trans (by omega)
      rw [hgd]
      refine ⟨by omega, fun h2 => ⟨by omega, ?_⟩, fun h2 => ?_⟩
      · refine TR.pure (hP ▸ of_spec b[k] acc hll) (by simp only [evS, evX, evSs, Go.Bx.get, ↓reduceIte, and_self, eq_self, Nat.succ_ne_self]) ?_
        simp only [vcC_reg, seqK_nrm, blkK_nrm, nrmK_app, vcR_nil, vcR_n, isCall, makes, newOf, opR, binI, evS, evV, evX, Go.Bx.get, St.stp, Ef.stp, lgs, setE, applyU, newN, Bool.false_eq_true, ↓reduceIte, true_and, and_self, eq_self, Nat.reduceEqDiff, Nat.succ_ne_self]
        refine lopK.on (k + 1, IntKind.i64.wrap (s + accL acc 0 b[k].ls)) ⟨hlt, ?_⟩ (by simp only; omega) (Wk.of [] hfn rfl ?_ ?_)
        · rw [he, hd, refR, if_pos h2]
        · simp only [EnvLe, VLe_refl, VLe_int, Go.Bx.get, ↓reduceIte, true_and, and_true, eq_self, Nat.reduceEqDiff, Nat.succ_ne_self]; exact hw
        · simp only [OwnLe, OLe_refl, exists_eq_left', Option.some.injEq, Go.Bx.own?, ↓reduceIte, and_self, eq_self]
      · refine lopK.on (k + 1, s) ⟨hlt, ?_⟩ (by simp only; omega) (Wk.of [] hfn rfl ?_ ?_)
        · rw [he, hd, refR, if_neg (by rw [h2]; simp)]
        · simp only [EnvLe, VLe_refl, VLe_int, Go.Bx.get, ↓reduceIte, true_and, and_true, eq_self, Nat.reduceEqDiff, Nat.succ_ne_self]; exact hw
        · simp only [OwnLe, OLe_refl, exists_eq_left', Option.some.injEq, Go.Bx.own?, ↓reduceIte, and_self, eq_self]
    · have hkl : k = b.length := by simp at h1; omega
      have : addR acc (fun d => decide (d ≤ day)) 0 b = s := by rw [← refR_addR, he, hkl]; simp [refR]
      exact RetK.pure (by simp only [rs15, ressS, resS, and_self]) (by simp only [rs15, retV, resV, Go.Bx.get, ↓reduceIte, eq_self, VLe_refl, Go.Bx.get, ↓reduceIte, eq_self, this])

theorem rsright_spec (p : Int × Int) : Ctr Try.prog 37 [vS p] [] (.d (.bool (okS p))) [] [] := by
  refine pure37 (by simp) rfl rfl ?_
  intro c hP hfn
  simp only [c37, vS, okS, vcC_seq, vcC_reg, vcC_ret, seqK_nrm, nrmK_app, initE, vcR_nil, vcR_n, vcR_s, isCall, makes, isStore, newOf, opR, binI, pickV, evS, evV, evX, gOf, Go.Bx.get, Go.Bx.own?, cellsV, isCell, cut, nth, St.stp, Ef.stp, lgs, setE, applyU, setO, newN, Option.getD_some, List.all_cons, List.all_nil, List.length_cons, List.length_nil, List.not_mem_nil, Bool.true_and, Bool.and_self, Bool.or_self, Bool.false_eq_true, Bool.cond_false_right, ↓reduceIte, true_and, and_true, and_self, not_false_eq_true, forall_const, implies_true, imp_self, eq_self, Nat.reduceAdd, Nat.reduceLeDiff, Nat.reduceEqDiff, Nat.zero_add, Nat.add_zero, Nat.le_refl, Nat.succ_ne_self]
  exact RetK.pure (by simp only [rs37, ressS, resS, and_self]) (by simp only [rs37, retV, resV, Go.Bx.get, ↓reduceIte, eq_self, VLe_refl, Go.Bx.get, ↓reduceIte, eq_self])
theorem rin_eq (p : Int × Int) (d : Int) : (okS p && decide (p.1 ≤ d) && decide (d < p.2)) = inR p d := by
  rw [inR, keptR]
  by_cases h : okS p = true
  · by_cases h2 : p.1 = p.2
    · rw [if_pos (by simp [h2]), h]
      by_cases h3 : p.1 ≤ d <;> by_cases h4 : d < p.2 <;> simp [h3, h4] <;> omega
    · rw [if_neg (by simp [h, h2]), h]
      rfl
  · rw [if_pos (by simp [h])]
    have : okS p = false := by simpa using h
    rw [this]
    by_cases h3 : (0 : Int) ≤ d <;> by_cases h4 : d < 0 <;> simp [h3, h4] <;> omega
theorem rin_spec (p : Int × Int) (d : Int) : Ctr Try.prog 33 [vS p, .d (.int .i64 d)] [] (.d (.bool (inR p d))) [] [] := by
  refine pure33 (by simp) rfl rfl ?_
  intro c hP hfn
  simp only [c33, vS, vcC_seq, vcC_reg, seqK_nrm, nrmK_app, initE, vcR_nil, vcR_n, isCall, makes, newOf, opR, evS, evV, evX, Go.Bx.get, Go.Bx.own?, cellsV, isCell, cut, dropV, takeV, St.stp, Ef.stp, lgs, setE, applyU, setO, newN, Option.getD_some, List.all_cons, List.all_nil, List.length_cons, List.length_nil, List.not_mem_nil, Bool.and_self, Bool.false_eq_true, ↓reduceIte, true_and, and_self, not_false_eq_true, eq_self, Nat.reduceAdd, Nat.reduceEqDiff, Nat.zero_add, Nat.le_refl]
  refine TR.pure (hP ▸ rsright_spec p) (by simp only [evS, evX, evSs, Go.Bx.get, ↓reduceIte, and_self, eq_self]) ?_
  simp only [vcC_ret, seqK_nrm, nrmK_app, vcR_nil, vcR_n, vcR_s, isCall, makes, isStore, newOf, opR, binI, pickV, evS, evV, evX, gOf, Go.Bx.get, Go.Bx.own?, cut, nth, St.stp, Ef.stp, lgs, setE, applyU, newN, List.length_cons, List.length_nil, Bool.true_and, Bool.or_self, Bool.false_eq_true, Bool.cond_false_right, ↓reduceIte, true_and, and_true, and_self, forall_const, implies_true, imp_self, eq_self, Nat.reduceAdd, Nat.reduceLeDiff, Nat.reduceEqDiff, Nat.zero_add, Nat.add_zero, Nat.le_refl, Nat.succ_ne_self, Nat.zero_ne_one]
  exact RetK.pure (by simp only [rs33, ressS, resS, and_self]) (by simp only [rs33, retV, resV, Go.Bx.get, ↓reduceIte, eq_self, VLe_bool, Go.Bx.get, ↓reduceIte, eq_self]; exact rin_eq p d)
theorem rturn_spec (b : List Ent) (acc : Int) (p : Int × Int) (hb : b.length ≤ 9223372036854775807) (hbl : ∀ e, e ∈ b → e.ls.length ≤ 9223372036854775807) :
    Ctr Try.prog 17 [vB b, .d (.int .i64 acc), vS p] [] (.d (.int .i64 (addR acc (fun d => inR p d) 0 b))) [] [] := by
  refine pure17 (by simp) rfl rfl ?_
  intro c hP hfn
  simp only [c17, vB, vS, vcC_seq, vcC_reg, vcC_block, seqK_nrm, nrmK_app, initE, vcR_nil, vcR_n, isCall, makes, newOf, opR, evS, evV, evX, Go.Bx.get, cellsV, isCell, St.stp, Ef.stp, lgs, setE, applyU, setO, newN, Option.getD_some, List.all_cons, List.all_nil, List.mem_cons, List.not_mem_nil, Bool.and_self, Bool.false_eq_true, reduceCtorEq, ↓reduceIte, true_and, and_self, or_false, not_false_eq_true, eq_self, Nat.reduceAdd, Nat.reduceEqDiff, Nat.zero_add, Nat.succ_ne_self]
  refine vcC.loop (X := Nat × Int) (fun x => ⟨[(1, .d (.int .i64 acc)), (3, .own 3 0), (5, .own 5 0), (7, .d (.int .i64 x.2)), (8, .d (.int .i64 x.1))],
     [(3, .fix [.d (slB b)]), (5, .fix [.d (.int .i64 p.1), .d (.int .i64 p.2)])], [3, 5]⟩)
    (fun x => x.1 ≤ b.length ∧ refR acc (fun d => inR p d) 0 b = refR acc (fun d => inR p d) x.2 (b.drop x.1)) (fun x => b.length - x.1) (0, 0) ⟨Nat.zero_le _, rfl⟩ (Wk.of [] hfn rfl ?_ ?_) ?_
  · simp only [EnvLe, VLe_refl, Go.Bx.get, ↓reduceIte, and_self, eq_self, Nat.reduceEqDiff, Nat.succ_ne_self, Nat.zero_ne_one, Int.cast_ofNat_Int]
  · simp only [OwnLe, OLe_refl, exists_eq_left', Option.some.injEq, Go.Bx.own?, ↓reduceIte, and_self, eq_self, Nat.reduceEqDiff]
  · rintro ⟨k, s⟩ ⟨hk, he⟩
    simp only at hk he
    simp only [slB, vcC_seq, vcC_reg, vcC_drw, vcC_skip, vcC_cond, vcC_block, vcC_exit, vcC_ret, seqK_nrm, seqK_exit, blkK_exit, lopK_exit, nrmK_app, vcR_nil, vcR_n, isCall, makes, newOf, opR, binI, evS, evV, evX, Go.Bx.get, Go.Bx.own?, cut, cutD, nth, nthD, dropV, takeV, dropD, St.stp, Ef.stp, Stp.lg, lgs, setE, applyU, newN, List.map_nil, List.append_nil, List.nil_append, List.cons_append, List.length_cons, List.length_nil, Bool.false_eq_true, ↓reduceIte, true_and, and_true, and_self, eq_self, Nat.reduceAdd, Nat.reduceLeDiff, Nat.reduceEqDiff, Nat.zero_add, Nat.add_zero, Nat.le_refl, Nat.succ_ne_self, Int.toNat_natCast]
    refine ⟨fun h1 => ?_, fun h1 => ?_⟩
    · have hlt : k < b.length := by simpa using h1
      have hd : b.drop k = b[k] :: b.drop (k + 1) := List.drop_eq_getElem_cons hlt
      have hgd : b.getD k default = b[k] := by simp [hlt]
      have hll := hbl b[k] (List.getElem_mem hlt)
      have hw : IntKind.i64.wrap ((k : Int) + 1) = ((k + 1 : Nat) : Int) := (IntWalk.i64_in _ (by omega)).trans (by omega)
      rw [hgd]
      refine ⟨by omega, ?_⟩
      refine TR.pure (hP ▸ rin_spec p b[k].day) (by simp only [evS, evX, evSs, Go.Bx.get, ↓reduceIte, and_self, eq_self, Nat.reduceEqDiff, Nat.succ_ne_self]) ?_
      simp only [vcC_reg, vcC_skip, vcC_cond, seqK_nrm, blkK_nrm, nrmK_app, drwK_app, vcR_nil, vcR_n, isCall, makes, newOf, opR, binI, evS, evV, evX, Go.Bx.get, Go.Bx.own?, cut, cutD, nth, dropD, takeDV, St.stp, Ef.stp, lgs, setE, applyU, newN, List.nil_append, List.cons_append, List.length_cons, List.length_nil, Bool.false_eq_true, ↓reduceIte, true_and, and_true, and_self, eq_self, Nat.reduceAdd, Nat.reduceEqDiff, Nat.zero_add, Nat.add_zero, Nat.le_refl, Nat.succ_ne_self, Int.toNat_natCast]
      refine ⟨rfl, fun h2 => ⟨by omega, ?_⟩, fun h2 => ?_⟩
      · rw [hgd]
        refine TR.pure (hP ▸ of_spec b[k] acc hll) (by simp only [evS, evX, evSs, Go.Bx.get, ↓reduceIte, and_self, eq_self, Nat.succ_ne_self]) ?_
        simp only [vcC_reg, seqK_nrm, blkK_nrm, nrmK_app, vcR_nil, vcR_n, isCall, makes, newOf, opR, binI, evS, evV, evX, Go.Bx.get, St.stp, Ef.stp, lgs, setE, applyU, newN, Bool.false_eq_true, ↓reduceIte, true_and, and_self, eq_self, Nat.reduceEqDiff, Nat.succ_ne_self]
        refine lopK.on (k + 1, IntKind.i64.wrap (s + accL acc 0 b[k].ls)) ⟨hlt, ?_⟩ (by simp only; omega) (Wk.of [] hfn rfl ?_ ?_)
        · rw [he, hd, refR, if_pos h2]
        · simp only [EnvLe, VLe_refl, VLe_int, Go.Bx.get, ↓reduceIte, true_and, and_true, eq_self, Nat.reduceEqDiff, Nat.succ_ne_self]; exact hw
        · simp only [OwnLe, OLe_refl, exists_eq_left', Option.some.injEq, Go.Bx.own?, ↓reduceIte, and_self, eq_self, Nat.reduceEqDiff]
      · refine lopK.on (k + 1, s) ⟨hlt, ?_⟩ (by simp only; omega) (Wk.of [] hfn rfl ?_ ?_)
        · rw [he, hd, refR, if_neg (by rw [h2]; simp)]
        · simp only [EnvLe, VLe_refl, VLe_int, Go.Bx.get, ↓reduceIte, true_and, and_true, eq_self, Nat.reduceEqDiff, Nat.succ_ne_self]; exact hw
        · simp only [OwnLe, OLe_refl, exists_eq_left', Option.some.injEq, Go.Bx.own?, ↓reduceIte, and_self, eq_self, Nat.reduceEqDiff]
    · have hkl : k = b.length := by simp at h1; omega
      have : addR acc (fun d => inR p d) 0 b = s := by rw [← refR_addR, he, hkl]; simp [refR]
      exact RetK.pure (by simp only [rs17, ressS, resS, and_self]) (by simp only [rs17, retV, resV, Go.Bx.get, ↓reduceIte, eq_self, VLe_refl, Go.Bx.get, ↓reduceIte, eq_self, this])

theorem rtrial_spec (b : List Ent) (day : Int) (hb : b.length ≤ 9223372036854775807) (hbl : ∀ e, e ∈ b → e.ls.length ≤ 9223372036854775807) :
    Ctr Try.prog 19 [vB b, .d (.int .i64 day)] [] (.ag (arr10 (trialR b day))) [] [] := by
  refine pure19 (by simp) rfl rfl ?_
  intro c hP hfn
  simp only [c19, vB, vcC_seq, vcC_reg, vcC_block, seqK_nrm, nrmK_app, initE, vcR_nil, vcR_n, isCall, makes, newOf, opR, evS, evV, evX, Go.Bx.get, cellsV, isCell, St.stp, Ef.stp, lgs, setE, applyU, setO, newN, Option.getD_some, List.all_cons, List.all_nil, List.mem_cons, List.not_mem_nil, Bool.and_self, Bool.false_eq_true, ↓reduceIte, true_and, and_self, or_false, not_false_eq_true, eq_self, Nat.reduceEqDiff, Nat.zero_add, Nat.succ_ne_self]
  refine vcC.loop (X := Nat) (fun k => ⟨[(1, .d (.int .i64 day)), (2, .own 2 0), (4, .own 4 0), (5, .own 5 0), (6, .d (.int .i64 (k + 1 : Nat)))],
     [(2, .fix [.d (slB b)]), (4, .fix (arr10 (fun _ => 0))), (5, .fix (arr10 (fun j => if j ≤ k then trialR b day j else 0)))], [2, 4, 5]⟩)
    (fun k => k ≤ 9) (fun k => 9 - k) 0 (Nat.zero_le _) (Wk.of [] hfn rfl ?_ ?_) ?_
  · simp only [EnvLe, VLe_refl, Go.Bx.get, ↓reduceIte, and_self, eq_self, Nat.reduceEqDiff, Nat.zero_add, Nat.succ_ne_self, Nat.zero_ne_one, Int.cast_ofNat_Int]
  · simp only [arr10, trialR, OwnLe, OLe_refl, exists_eq_left', Option.some.injEq, Go.Bx.own?, ↓reduceIte, and_self, eq_self, Nat.reduceLeDiff, Nat.reduceEqDiff, Nat.le_refl]
  · rintro k hk
    simp only [arr10_len, vcC_seq, vcC_reg, vcC_skip, vcC_cond, vcC_block, vcC_exit, vcC_ret, seqK_nrm, seqK_exit, blkK_exit, lopK_exit, nrmK_app, vcR_nil, vcR_n, isCall, makes, newOf, opR, binI, evS, evV, evX, Go.Bx.get, Go.Bx.own?, cellsV, cut, dropV, takeV, St.stp, Ef.stp, lgs, setE, applyU, newN, Ef.bad, List.length_cons, List.length_nil, Bool.false_eq_true, ↓reduceIte, true_and, and_self, eq_self, Nat.reduceEqDiff, Nat.zero_add, Nat.le_refl, Nat.succ_ne_self]
    refine ⟨fun h1 => ?_, fun h1 => ?_⟩
    · have hlt : k < 9 := by have := of_decide_eq_true h1; omega
      have hw : IntKind.i64.wrap (((k + 1 : Nat) : Int) + 1) = ((k + 1 + 1 : Nat) : Int) := (IntWalk.i64_in _ (by omega)).trans (by omega)
      refine TR.pure (hP ▸ rbalance_spec b _ day hb hbl) (by simp only [evS, evX, evSs, Go.Bx.get, ↓reduceIte, and_self, eq_self, Nat.reduceEqDiff, Nat.succ_ne_self]) ?_
      simp only [arr10_len, vcC_reg, seqK_nrm, blkK_nrm, nrmK_app, vcR_nil, vcR_n, isCall, makes, newOf, opR, binI, evS, evV, evX, Go.Bx.get, Go.Bx.own?, cellsV, St.stp, Ef.stp, lgs, setE, applyU, setO, newN, List.length_cons, List.length_nil, List.mem_cons, List.not_mem_nil, Bool.false_eq_true, ↓reduceIte, true_and, and_self, or_false, eq_self, Nat.reduceLeDiff, Nat.reduceEqDiff, Nat.zero_add, Nat.succ_ne_self, Int.toNat_natCast, or_true, Int.cast_ofNat_Int, Nat.mul_one]
      refine ⟨by omega, by omega, ?_⟩
      rw [arr10_put _ _ _ (by omega), hw]
      refine lopK.on (k + 1) hlt (by omega) (Wk.of [] hfn rfl ?_ ?_)
      · simp only [EnvLe, VLe_refl, Go.Bx.get, ↓reduceIte, and_self, eq_self, Nat.reduceEqDiff, Nat.succ_ne_self]
      · simp only [OwnLe, OLe_refl, exists_eq_left', Option.some.injEq, Go.Bx.own?, ↓reduceIte, true_and, and_true, eq_self, Nat.reduceEqDiff]
        refine OLe.eq (congrArg Own.fix (arr10_congr fun i hi => ?_))
        simp only [updF]
        by_cases h5 : i = k + 1
        · subst h5
          rw [if_pos rfl, if_pos (Nat.le_refl _), trialR, if_neg (by omega)]
        · rw [if_neg h5]
          by_cases h6 : i ≤ k
          · rw [if_pos h6, if_pos (by omega)]
          · rw [if_neg h6, if_neg (by omega)]
    · have hk9 : k = 9 := by have := of_decide_eq_false h1; omega
      subst hk9
      have e9 : (arr10 fun j => if j ≤ 9 then trialR b day j else 0) = arr10 (trialR b day) := arr10_congr fun i hi => if_pos (by omega)
      rw [e9]
      simp only [arr10, isCell, takeV, putV, applyU, setO, newN, List.all_cons, List.all_nil, List.length_cons, List.length_nil, List.mem_cons, List.not_mem_nil, Bool.and_self, ↓reduceIte, true_and, and_self, or_false, eq_self, Nat.reduceAdd, Nat.reduceEqDiff, Nat.zero_add, Nat.le_refl, decide_false, or_true, Int.cast_ofNat_Int, Int.reduceLE]
      exact RetK.pure (by simp only [rs19, ressS, resS, Go.Bx.get, Go.Bx.own?, List.length_cons, List.length_nil, ↓reduceIte, and_self, eq_self, Nat.reduceAdd, Nat.reduceEqDiff, Nat.zero_add, Nat.le_refl]) (by simp only [rs19, retV, resV, Go.Bx.get, Go.Bx.own?, cut, dropV, takeV, ↓reduceIte, eq_self, Nat.reduceEqDiff, VLe_refl, Go.Bx.get, Go.Bx.own?, cut, dropV, takeV, ↓reduceIte, eq_self, Nat.reduceEqDiff])

/-- Lengths, summed up as the law sums them. -/
def fewS : Int → List Ent → Int
  | n, [] => n
  | n, e :: r => fewS (IntKind.i64.wrap (n + e.ls.length)) r
def fewR (b : List Ent) : Bool := decide ((b.length : Int) ≤ 200) && decide (fewS 0 b ≤ 2000)
theorem few_spec (b : List Ent) (hb : b.length ≤ 9223372036854775807) : Ctr Try.prog 13 [.d (slB b)] [] (.d (.bool (fewR b))) [] [] := by
  refine pure13 (by simp) rfl rfl ?_
  intro c hP hfn
  simp only [c13, slB, vcC_seq, vcC_reg, vcC_block, seqK_nrm, nrmK_app, initE, vcR_nil, vcR_n, isCall, makes, newOf, opR, evS, evV, evX, Go.Bx.get, St.stp, Ef.stp, lgs, setE, applyU, newN, Bool.false_eq_true, reduceCtorEq, ↓reduceIte, true_and, eq_self]
  refine vcC.loop (X := Nat × Int) (fun x => ⟨[(0, .d (slB b)), (3, .d (.int .i64 x.2)), (6, .d (slB b)), (7, .d (.int .i64 b.length)), (8, .d (.int .i64 x.1))], [], []⟩)
    (fun x => x.1 ≤ b.length ∧ fewS 0 b = fewS x.2 (b.drop x.1)) (fun x => b.length - x.1) (0, 0) ⟨Nat.zero_le _, rfl⟩ (Wk.of [] hfn rfl ?_ ?_) ?_
  · simp only [slB, EnvLe, VLe_refl, Go.Bx.get, reduceCtorEq, ↓reduceIte, and_self, eq_self, Nat.reduceEqDiff, Nat.succ_ne_self, Int.cast_ofNat_Int]
  · simp only [OwnLe]
  · rintro ⟨k, s⟩ ⟨hk, he⟩
    simp only at hk he
    simp only [slB, slL, vcC_seq, vcC_reg, vcC_skip, vcC_cond, vcC_block, vcC_exit, vcC_ret, seqK_nrm, seqK_exit, blkK_nrm, blkK_exit, lopK_exit, nrmK_app, vcR_nil, vcR_n, vcR_s, isCall, makes, isStore, newOf, opR, binI, pickV, evS, evV, evX, gOf, Go.Bx.get, Go.Bx.own?, cellsV, isCell, cut, cutD, nth, dropD, takeDV, putV, St.stp, Ef.stp, lgs, setE, applyU, setO, newN, Option.getD_some, List.all_cons, List.all_nil, List.length_cons, List.length_nil, List.mem_cons, List.not_mem_nil, Bool.true_and, Bool.and_self, Bool.or_self, Bool.false_eq_true, Bool.cond_false_right, reduceCtorEq, ↓reduceIte, true_and, and_true, and_self, or_false, not_false_eq_true, forall_const, implies_true, imp_self, eq_self, Nat.reduceAdd, Nat.reduceEqDiff, Nat.zero_add, Nat.le_refl, Nat.succ_ne_self, Int.toNat_natCast]
    refine ⟨fun h1 => ?_, fun h1 => ?_⟩
    · have hlt : k < b.length := by simpa using h1
      have hd : b.drop k = b[k] :: b.drop (k + 1) := List.drop_eq_getElem_cons hlt
      have hgd : b.getD k default = b[k] := by simp [hlt]
      have hw : IntKind.i64.wrap ((k : Int) + 1) = ((k + 1 : Nat) : Int) := (IntWalk.i64_in _ (by omega)).trans (by omega)
      rw [hgd]
      refine ⟨by omega, lopK.on (k + 1, IntKind.i64.wrap (s + b[k].ls.length)) ⟨hlt, ?_⟩ (by simp only; omega) (Wk.of [] hfn rfl ?_ ?_)⟩
      · rw [he, hd, fewS]
      · simp only [EnvLe, VLe_refl, VLe_int, Go.Bx.get, reduceCtorEq, ↓reduceIte, true_and, and_true, eq_self, Nat.reduceEqDiff, Nat.succ_ne_self]; exact hw
      · simp only [OwnLe]
    · have hkl : k = b.length := by simp at h1; omega
      have : fewS 0 b = s := by rw [he, hkl]; simp [fewS]
      exact RetK.pure (by simp only [rs13, ressS, resS, and_self]) (by simp only [rs13, fewR, this, retV, resV, Go.Bx.get, ↓reduceIte, eq_self, VLe_refl, Go.Bx.get, ↓reduceIte, eq_self])

theorem told_spec (b : List Ent) (z0 z1 : Int) (p : Int × Int) (hb : b.length ≤ 9223372036854775807) (hbl : ∀ e, e ∈ b → e.ls.length ≤ 9223372036854775807) :
    Ctr Try.prog 4 [vB b, .ag [.d (.int .i64 z0), .d (.int .i64 z1)], vS p] [] (.d (.bool true)) [] [] := by
  refine pure4 (by simp) rfl rfl ?_
  intro c hP hfn
  simp only [c4, vB, vS, vcC_seq, vcC_reg, seqK_nrm, nrmK_app, initE, vcR_nil, vcR_n, isCall, makes, newOf, opR, evS, evV, evX, Go.Bx.get, Go.Bx.own?, cellsV, isCell, cut, nth, St.stp, Ef.stp, lgs, setE, applyU, setO, newN, Option.getD_some, List.all_cons, List.all_nil, List.length_cons, List.length_nil, List.mem_cons, List.not_mem_nil, Bool.and_self, Bool.false_eq_true, reduceCtorEq, ↓reduceIte, true_and, and_self, or_false, not_false_eq_true, eq_self, Nat.reduceAdd, Nat.reduceEqDiff, Nat.zero_add, Nat.add_zero, Nat.le_refl, Nat.succ_ne_self, Nat.zero_ne_one]
  refine TR.pure (hP ▸ few_spec b hb) (by simp only [evS, evX, evSs, Go.Bx.get, ↓reduceIte, and_self, eq_self]) ?_
  simp only [vcC_seq, vcC_reg, vcC_drw, vcC_skip, vcC_cond, seqK_nrm, nrmK_app, vcR_nil, vcR_n, isCall, makes, newOf, opR, evS, evV, evX, Go.Bx.get, St.stp, Ef.stp, lgs, setE, applyU, newN, Bool.false_eq_true, ↓reduceIte, true_and, eq_self]
  refine ⟨fun h => ?_, fun h => ?_⟩
  · refine TR.pure (hP ▸ alive_spec) (by simp only [evSs]) ?_
    simp only [vcC_ret, seqK_nrm, seqK_ret, nrmK_app, vcR_nil, vcR_n, isCall, makes, newOf, opR, evS, evV, evX, Go.Bx.get, St.stp, Ef.stp, lgs, setE, applyU, newN, Bool.false_eq_true, ↓reduceIte, true_and, eq_self]
    exact RetK.pure (by simp only [rs4, ressS, resS, and_self]) (by simp only [rs4, retV, resV, Go.Bx.get, ↓reduceIte, eq_self, VLe_refl, Go.Bx.get, ↓reduceIte, eq_self])
  · refine TR.pure (hP ▸ alive_spec) (by simp only [evSs]) ?_
    simp only [vcR_n, vcR_s, isCall, makes, isStore, newOf, opR, evS, evV, evX, gOf, Go.Bx.get, Go.Bx.own?, cut, nth, dropV, takeV, St.stp, Ef.stp, Stp.lg, lgs, setE, applyU, newN, List.map_nil, List.append_nil, List.nil_append, List.cons_append, List.length_cons, List.length_nil, Bool.or_self, Bool.false_eq_true, ↓reduceIte, true_and, and_self, forall_const, eq_self, Nat.reduceAdd, Nat.reduceLeDiff, Nat.reduceEqDiff, Nat.zero_add, Nat.add_zero, Nat.le_refl, Nat.succ_ne_self, Int.le_refl, Int.cast_ofNat_Int, Int.reduceToNat, Int.reduceLT, Int.reduceLE, Nat.mul_one]
    refine TR.gpure (gc := true) rfl (fun _ => hP ▸ balance_spec b z0 z1 hb hbl) (fun _ => by simp only [evS, evX, evSs, Go.Bx.get, ↓reduceIte, and_self, forall_const, eq_self, Nat.reduceEqDiff, Nat.succ_ne_self]) ?_
    simp only [vcR_s, isCall, makes, isStore, opR, evS, evV, evX, gOf, Go.Bx.get, Go.Bx.own?, cut, nth, dropV, takeV, St.stp, lgs, setE, applyU, newN, List.nil_append, List.cons_append, List.length_cons, List.length_nil, Bool.or_self, Bool.false_eq_true, ↓reduceIte, true_and, and_self, forall_const, eq_self, Nat.reduceAdd, Nat.reduceLeDiff, Nat.reduceEqDiff, Nat.zero_add, Nat.add_zero, Nat.le_refl, Nat.succ_ne_self, Int.le_refl, Int.cast_ofNat_Int, Int.reduceToNat, Int.reduceLT, Int.reduceLE, Nat.mul_one]
    refine TR.gpure (gc := true) rfl (fun _ => hP ▸ rbalance_spec b z0 z1 hb hbl) (fun _ => by simp only [evS, evX, evSs, Go.Bx.get, ↓reduceIte, and_self, forall_const, eq_self, Nat.reduceEqDiff, Nat.succ_ne_self]) ?_
    simp only [vcR_n, vcR_s, isCall, makes, isStore, newOf, opR, binI, pickV, evS, evV, evX, gOf, Go.Bx.get, Go.Bx.own?, cut, nth, dropV, takeV, St.stp, Ef.stp, Stp.lg, lgs, setE, applyU, newN, List.map_nil, List.append_nil, List.nil_append, List.cons_append, List.length_cons, List.length_nil, Bool.and_self, Bool.or_self, Bool.false_eq_true, cond_true, ↓reduceIte, true_and, and_self, forall_const, eq_self, Nat.reduceAdd, Nat.reduceLeDiff, Nat.reduceEqDiff, Nat.zero_add, Nat.add_zero, Nat.le_refl, Nat.succ_ne_self, Int.le_refl, Int.cast_ofNat_Int, Int.reduceToNat, Int.reduceLT, beq_self_eq_true, Nat.mul_one]
    refine TR.gpure (gc := true) rfl (fun _ => hP ▸ turn_spec b z0 p hb hbl) (fun _ => by simp only [evS, evX, evSs, Go.Bx.get, ↓reduceIte, and_self, forall_const, eq_self, Nat.reduceEqDiff, Nat.succ_ne_self]) ?_
    simp only [vcR_s, isCall, makes, isStore, opR, evS, evV, evX, gOf, Go.Bx.get, Go.Bx.own?, cut, nth, dropV, takeV, St.stp, lgs, setE, applyU, newN, List.nil_append, List.cons_append, List.length_cons, List.length_nil, Bool.or_self, Bool.false_eq_true, ↓reduceIte, true_and, and_self, forall_const, eq_self, Nat.reduceAdd, Nat.reduceLeDiff, Nat.reduceEqDiff, Nat.zero_add, Nat.add_zero, Nat.le_refl, Nat.succ_ne_self, Int.le_refl, Int.cast_ofNat_Int, Int.reduceToNat, Int.reduceLT, Nat.mul_one]
    refine TR.gpure (gc := true) rfl (fun _ => hP ▸ rturn_spec b z0 p hb hbl) (fun _ => by simp only [evS, evX, evSs, Go.Bx.get, ↓reduceIte, and_self, forall_const, eq_self, Nat.reduceEqDiff, Nat.succ_ne_self]) ?_
    simp only [vcR_n, vcR_s, isCall, makes, isStore, newOf, opR, binI, pickV, evS, evV, evX, gOf, Go.Bx.get, Go.Bx.own?, cut, nth, dropV, takeV, St.stp, Ef.stp, Stp.lg, lgs, setE, applyU, newN, List.map_nil, List.append_nil, List.nil_append, List.cons_append, List.length_cons, List.length_nil, Bool.and_self, Bool.or_self, Bool.false_eq_true, cond_true, ↓reduceIte, true_and, and_self, forall_const, eq_self, Nat.reduceAdd, Nat.reduceEqDiff, Nat.zero_add, Nat.le_refl, Nat.succ_ne_self, Int.cast_ofNat_Int, Int.reduceToNat, Int.reduceLT, Int.reduceLE, beq_self_eq_true, Nat.mul_one]
    refine TR.gpure (gc := true) rfl (fun _ => hP ▸ trial_spec b z1 hb hbl) (fun _ => by simp only [evS, evX, evSs, Go.Bx.get, ↓reduceIte, and_self, forall_const, eq_self, Nat.reduceEqDiff, Nat.succ_ne_self]) ?_
    simp only [vcR_s, isCall, makes, isStore, opR, evS, evV, evX, gOf, Go.Bx.get, Go.Bx.own?, cut, nth, dropV, takeV, St.stp, lgs, setE, applyU, newN, List.nil_append, List.cons_append, List.length_cons, List.length_nil, Bool.or_self, Bool.false_eq_true, ↓reduceIte, true_and, and_self, forall_const, eq_self, Nat.reduceAdd, Nat.reduceEqDiff, Nat.zero_add, Nat.le_refl, Nat.succ_ne_self, Int.cast_ofNat_Int, Int.reduceToNat, Int.reduceLT, Int.reduceLE, Nat.mul_one]
    refine TR.gpure (gc := true) rfl (fun _ => hP ▸ rtrial_spec b z1 hb hbl) (fun _ => by simp only [evS, evX, evSs, Go.Bx.get, ↓reduceIte, and_self, forall_const, eq_self, Nat.reduceEqDiff, Nat.succ_ne_self]) ?_
    simp only [arr10, vcC_ret, seqK_nrm, drwK_app, vcR_nil, vcR_n, vcR_s, isCall, makes, isStore, newOf, opR, pickV, evS, evV, evX, gOf, Go.Bx.get, nth, St.stp, Ef.stp, Stp.lg, lgs, setE, applyU, newN, List.map_nil, List.append_nil, List.nil_append, List.cons_append, List.length_cons, List.length_nil, Bool.and_self, Bool.or_self, Bool.false_eq_true, cond_true, ↓reduceIte, true_and, and_self, forall_const, eq_self, Nat.reduceAdd, Nat.reduceEqDiff, Nat.zero_add, Nat.succ_ne_self, eqS, eqB, beq_self_eq_true]
    refine ⟨rfl, ?_⟩
    exact RetK.pure (by simp only [rs4, ressS, resS, and_self]) (by simp only [rs4, retV, resV, Go.Bx.get, ↓reduceIte, eq_self, VLe_refl, Go.Bx.get, ↓reduceIte, eq_self])
end Go.Proofs.Ytllakgjfgdgfiaa
