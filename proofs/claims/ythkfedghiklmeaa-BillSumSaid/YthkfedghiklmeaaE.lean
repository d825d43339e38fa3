import Derived.Test.YthkfedghiklmeaaD
namespace Go.Proofs.Ythkfedghiklmeaa
open Go.Bx
set_option maxRecDepth 10000

/-! The document's way of turning. -/
def cntL (day : Int) : List Bl → Nat
  | [] => 0
  | b :: r => if b.du ≤ day then cntL day r else cntL day r + 1
def rsL (day : Int) : List Bl → Int
  | [] => 0
  | b :: r => if b.du ≤ day then b.am + rsL day r else rsL day r
def pdL (day : Int) : List Bl → Int
  | [] => 0
  | b :: r => if b.du ≤ day then pdL day r else b.pa + pdL day r
def outL (day : Int) (A n : Nat) : Nat → List Bl → List Bl
  | _, [] => []
  | i, b :: r => if b.du ≤ day then b :: outL day A n i r else { b with am := b.pa + (partN A n i : Nat) } :: outL day A n (i + 1) r
theorem all_late {day : Int} : ∀ {l : List Bl}, (∀ b, b ∈ l → day < b.du) → kD day l = 0 ∧ cntL day l = l.length ∧ rsL day l = 0 ∧ pdL day l = sumP l ∧ ∀ A n i, outL day A n i l = updL A n i l
  | [], _ => ⟨rfl, rfl, rfl, by simp [pdL, sumP], fun _ _ _ => rfl⟩
  | b :: r, h => by
    have hb := h b (by simp)
    obtain ⟨h1, h2, h3, h4, h5⟩ := all_late (l := r) (fun x hx => h x (by simp [hx]))
    refine ⟨by rw [kD, if_neg (by omega)], by rw [cntL, if_neg (by omega), h2]; simp, by rw [rsL, if_neg (by omega), h3], by rw [pdL, if_neg (by omega), h4]; simp [sumP], fun A n i => by rw [outL, if_neg (by omega), h5, updL]⟩
theorem sorted_cut {day : Int} : ∀ {l : List Bl}, l.Pairwise (fun a b => a.du ≤ b.du) → cntL day l = l.length - kD day l ∧ rsL day l = sumA (l.take (kD day l)) ∧ pdL day l = sumP (l.drop (kD day l)) ∧ (∀ A n i, outL day A n i l = l.take (kD day l) ++ updL A n i (l.drop (kD day l))) ∧ (∀ b, b ∈ l.drop (kD day l) → day < b.du) ∧ (∀ b, b ∈ l.take (kD day l) → b.du ≤ day)
  | [], _ => by simp [cntL, rsL, pdL, sumA, sumP, outL, updL, kD]
  | b :: r, h => by
    rw [List.pairwise_cons] at h
    by_cases hb : b.du ≤ day
    · obtain ⟨h1, h2, h3, h4, h5, h6⟩ := sorted_cut (day := day) h.2
      rw [kD, if_pos hb, cntL, if_pos hb, rsL, if_pos hb, pdL, if_pos hb]
      simp only [List.take_succ_cons, List.drop_succ_cons]
      refine ⟨by rw [h1]; simp, by rw [h2]; simp [sumA], h3, fun A n i => by rw [outL, if_pos hb, h4]; rfl, h5, fun x hx => ?_⟩
      rcases List.mem_cons.1 hx with hx | hx
      · rw [hx]; exact hb
      · exact h6 x hx
    · have hall : ∀ x, x ∈ b :: r → day < x.du := fun x hx => by
        rcases List.mem_cons.1 hx with hx | hx
        · rw [hx]; omega
        · have := h.1 x hx; omega
      obtain ⟨h1, h2, h3, h4, h5⟩ := all_late hall
      rw [h1, List.take_zero, List.drop_zero]
      exact ⟨by rw [h2]; omega, by rw [h3]; simp [sumA], h4, fun A n i => by rw [h5]; rfl, hall, fun x hx => by simp at hx⟩
theorem cnt_app (day : Int) : ∀ (a b : List Bl), cntL day (a ++ b) = cntL day a + cntL day b ∧ rsL day (a ++ b) = rsL day a + rsL day b ∧ pdL day (a ++ b) = pdL day a + pdL day b
  | [], b => by simp [cntL, rsL, pdL]
  | x :: r, b => by
    obtain ⟨h1, h2, h3⟩ := cnt_app day r b
    simp only [List.cons_append, cntL, rsL, pdL, h1, h2, h3]
    split <;> omega
theorem cnt_le (day : Int) : ∀ {l : List Bl}, (∀ b, b ∈ l → 0 ≤ b.pa ∧ b.pa ≤ b.am) → cntL day l ≤ l.length ∧ 0 ≤ rsL day l ∧ 0 ≤ pdL day l ∧ rsL day l + pdL day l ≤ sumA l
  | [], _ => by simp [cntL, rsL, pdL, sumA]
  | b :: r, h => by
    have h1 := h b (by simp)
    obtain ⟨h2, h3, h4, h5⟩ := cnt_le day (l := r) (fun x hx => h x (by simp [hx]))
    simp only [cntL, rsL, pdL, sumA, List.map_cons, List.sum_cons, List.length_cons] at h5 ⊢
    split <;> omega
theorem outL_app (day : Int) (A n : Nat) : ∀ (a b : List Bl) (i : Nat), outL day A n i (a ++ b) = outL day A n i a ++ outL day A n (i + cntL day a) b
  | [], b, i => by simp [outL, cntL]
  | x :: r, b, i => by
    simp only [List.cons_append, outL, cntL]
    split
    · rw [outL_app day A n r b i]; rfl
    · rw [outL_app day A n r b (i + 1), show i + (cntL day r + 1) = i + 1 + cntL day r by omega]; rfl
theorem outL_len (day : Int) (A n : Nat) : ∀ (l : List Bl) (i : Nat), (outL day A n i l).length = l.length
  | [], _ => rfl
  | b :: r, i => by rw [outL]; split <;> simp [outL_len day A n r]
set_option maxHeartbeats 4000000 in
theorem rTurned (l : List Bl) (amt day : Int) (hl : l.length ≤ 1000000) : Ctr Try.prog 24 [.d (slL l), .d (.int .i64 amt), .d (.int .i64 day)] [] (.tup [.d (slL (turnR l amt day).1), .d (.int .i64 (turnR l amt day).2)]) [] [] := by
  have cr := rRight l (by omega)
  simp only [slL] at cr
  refine pure24 (by simp) rfl rfl ?_; intro c hP hfn; simp only [c24, slL, vcC_seq, vcC_reg, seqK_nrm, nrmK_app, initE, vcR_nil, vcR_n, isCall, makes, newOf, opR, evS, evV, evX, Go.Bx.get, St.stp, Ef.stp, lgs, setE, applyU, newN, Bool.false_eq_true, reduceCtorEq, ↓reduceIte, true_and, eq_self, Nat.reduceAdd, Nat.zero_add]
  repeat' first
      | (first
          | refine TR.p hP (by first | exact cr) (by repeat' first | exact trivial | (intro _; assumption) | apply And.intro) ?_
          | refine TR.gp hP rfl (fun _ => by first | exact cr) (fun _ => by repeat' first | exact trivial | (intro _; assumption) | apply And.intro) ?_
          | refine TR.pv hP rfl (by first | exact cr) trivial (by repeat' first | exact trivial | (intro _; assumption) | apply And.intro) ?_
         try simp only [vcC_seq, vcC_reg, vcC_skip, vcC_cond, vcC_block, vcC_ret, seqK_nrm, seqK_ret, nrmK_app, vcR_nil, vcR_n, vcR_s, isCall, makes, hasU, newOf, opR, binI, pickV, evS, evV, evX, gOf, Go.Bx.get, St.stp, Ef.stp, lgs, setE, applyU, newN, Option.getD_some, List.not_mem_nil, Bool.true_and, Bool.false_eq_true, Bool.cond_true_left, ↓reduceIte, true_and, and_true, and_self, not_false_eq_true, forall_const, implies_true, imp_self, eq_self, Nat.reduceEqDiff, Nat.succ_ne_self, Nat.zero_ne_one])
      | refine And.intro (fun h => ?_) (fun h => ?_)
      | refine And.intro (by first | omega | (simp only [maxLen, decide_eq_true_eq, decide_eq_false_iff_not] at *; omega)) ?_
      | (refine TR.aslO rfl rfl rfl rfl trivial (Nat.le_of_ble_eq_true rfl) ?_
         try simp only [↓evSo_some, vcC_seq, vcC_reg, vcC_drw, vcC_skip, vcC_cond, vcC_block, vcC_exit, vcC_ret, vcC_bad, seqK_nrm, seqK_exit, seqK_ret, blkK_nrm, blkK_exit, blkK_ret, lopK_exit, lopK_ret, lopX_exit, lopX_ret, jmpK_nrm, jmpK_exit, jmpK_ret, nrmK_app, drwK_app, initE, vcR_nil, vcR_n, vcR_s, isCall, makes, hasU, slK, newOf, opR, binI, pickV, evS, evV, evX, evSs, evVs, evParts, evPartsS, fillV, catV, gOf, Go.Bx.get, Go.Bx.own?, cellsV, isCell, cut, cutD, nth, nthD, dropV, takeV, dropD, takeDV, putV, toDs, St.stp, Ef.stp, Stp.lg, lgs, setE, applyU, setO, delO, newN, keysO, callU, Ef.bad, Option.getD_some, Option.getD_none, Option.map_some, Option.map_none, List.all_cons, List.all_nil, List.map_cons, List.map_nil, List.append_nil, List.nil_append, List.cons_append, List.length_cons, List.length_nil, List.mem_cons, List.not_mem_nil, Bool.and_true, Bool.true_and, Bool.and_self, Bool.not_true, Bool.not_false, Bool.or_self, Bool.or_false, Bool.false_or, Bool.false_eq_true, Bool.true_eq_false, Bool.cond_true_left, Bool.cond_false_right, cond_true, cond_false, reduceCtorEq, ↓reduceIte, if_true, if_false, true_and, and_true, and_self, false_and, and_false, or_false, false_or, not_false_eq_true, not_true_eq_false, forall_const, true_implies, false_implies, implies_true, imp_self, eq_self, ne_eq, Nat.reduceAdd, Nat.reduceSub, Nat.reduceMul, Nat.reduceMod, Nat.reduceLeDiff, Nat.reduceEqDiff, Nat.zero_add, Nat.add_zero, Nat.le_refl, Nat.succ_ne_self, Nat.one_ne_zero, Nat.zero_ne_one, Int.toNat_natCast, litRow, List.drop_succ_cons, List.drop_zero, List.take_succ_cons, List.take_zero, pubE, pubV, pubL, pubO, pubFE, pubFV, pubFL, pubFO, delO, eqS, eqB, Nat.reduceLT, Nat.not_lt_zero, Nat.sub_zero, decide_true, decide_false, true_or, or_true, Int.le_refl, Int.cast_ofNat_Int, Int.reduceToNat, Int.reduceLT, Int.reduceLE, beq_self_eq_true, Nat.mul_one, Nat.one_mul, Nat.zero_mul])
      | refine And.intro trivial ?_
      | refine And.intro rfl ?_
      | fail
  · have hn : ¬ (rightB l = true ∧ 0 ≤ amt ∧ amt ≤ 4000000000000000000) := by
      rintro ⟨g1, g2, g3⟩; rw [g1] at h; simp at h; omega
    (refine RetK.pure (by simp only [rs24, ressS, resS, and_self]) (VLe.tups ?_); simp only [ressV, resV, Go.Bx.get, ↓reduceIte, eq_self, Nat.succ_ne_self])
    rw [turnR, if_pos hn]; exact ⟨VLe.nil rfl (by simp), VLe.refl _, trivial⟩
  have hy : rightB l = true ∧ 0 ≤ amt ∧ amt ≤ 4000000000000000000 := by
    cases g : rightB l
    · rw [g] at h; simp at h
    · rw [g] at h; simp at h; exact ⟨rfl, h⟩
  have hR := rightB_iff.1 hy.1
  have hT : turnR l amt day = if kD day l = l.length then (if amt - sumA (l.take (kD day l)) ≠ 0 then ([], 10) else (l, 0))
      else if amt - sumA (l.take (kD day l)) < sumP (l.drop (kD day l)) then ([], 2)
      else (l.take (kD day l) ++ updL (amt - sumA (l.take (kD day l)) - sumP (l.drop (kD day l))).toNat (l.length - kD day l) 0 (l.drop (kD day l)), 0) := by rw [turnR, if_neg (fun g => g hy)]
  have h100 := hR.len
  have hsm := hR.sum
  obtain ⟨-, ha0, ha1⟩ := hy
  obtain ⟨s1, s2, s3, s4, s5, s6⟩ := sorted_cut (day := day) hR.ord
  have hkl := kD_le day l
  clear h
  refine vcC.loop (X := Nat) (fun k => ⟨[(0, .d (slL l)), (2, .d (.int .i64 day)), (9, .d (.int .i64 (cntL day (l.take k)))), (10, .d (.int .i64 (amt - rsL day (l.take k)))), (11, .d (.int .i64 (pdL day (l.take k)))), (12, .d (.int .i64 k))], [], []⟩)
    (fun k => k ≤ l.length) (fun k => l.length - k) 0 (Nat.zero_le _) (Wk.of [] hfn rfl (by simp only [slL, cntL, rsL, pdL, List.take_zero, Int.sub_zero, EnvLe, VLe_refl, Go.Bx.get, reduceCtorEq, ↓reduceIte, and_self, eq_self, Nat.reduceEqDiff, Nat.succ_ne_self, List.take_zero, Int.cast_ofNat_Int]) (by simp only [OwnLe])) ?_
  intro k hk
  simp only [slL, vcC_seq, vcC_reg, vcC_skip, vcC_cond, vcC_block, vcC_exit, vcC_ret, seqK_nrm, seqK_exit, seqK_ret, blkK_nrm, blkK_exit, lopK_exit, nrmK_app, vcR_nil, vcR_n, vcR_s, isCall, makes, hasU, newOf, opR, binI, pickV, evS, evV, evX, gOf, Go.Bx.get, cutD, nthD, dropD, St.stp, Ef.stp, lgs, setE, applyU, newN, Option.getD_some, List.length_cons, List.length_nil, List.not_mem_nil, Bool.true_and, Bool.false_eq_true, Bool.cond_false_right, reduceCtorEq, ↓reduceIte, true_and, and_true, and_self, not_false_eq_true, forall_const, implies_true, imp_self, eq_self, Nat.reduceAdd, Nat.reduceLeDiff, Nat.reduceEqDiff, Nat.zero_add, Nat.le_refl, Nat.succ_ne_self, Int.toNat_natCast]
  refine ⟨fun h1 => ?_, fun h1 => ?_⟩
  · have hlt : k < l.length := by have := of_decide_eq_true h1; omega
    obtain ⟨b, hd, hg, hm, hat⟩ := drop_at hlt
    have hb := hR.each b hm
    have hba := hR.am_le hm
    have hc0 := cnt_le day (l := l.take k) (fun x hx => (hR.each x (List.mem_of_mem_take hx)).2.2)
    have hc1 := cnt_le day (l := l.take (k + 1)) (fun x hx => (hR.each x (List.mem_of_mem_take hx)).2.2)
    have ht1 := hR.take_le (k + 1)
    have htl : (l.take k).length ≤ 100 := by simp; omega
    have hap := cnt_app day (l.take k) [b]
    have htk : l.take (k + 1) = l.take k ++ [b] := by rw [List.take_add_one, hat]; rfl
    rw [← htk] at hap
    simp only [cntL, rsL, pdL] at hap
    simp only [hg]
    repeat' first
        | (first
            | refine TR.p hP (by first | fail) (by repeat' first | exact trivial | (intro _; assumption) | apply And.intro) ?_
            | refine TR.gp hP rfl (fun _ => by first | fail) (fun _ => by repeat' first | exact trivial | (intro _; assumption) | apply And.intro) ?_
            | refine TR.pv hP rfl (by first | fail) trivial (by repeat' first | exact trivial | (intro _; assumption) | apply And.intro) ?_
           try simp only [hg, ↓evSo_some, vcC_seq, vcC_reg, vcC_drw, vcC_skip, vcC_cond, vcC_block, vcC_exit, vcC_ret, vcC_bad, seqK_nrm, seqK_exit, seqK_ret, blkK_nrm, blkK_exit, blkK_ret, lopK_exit, lopK_ret, lopX_exit, lopX_ret, jmpK_nrm, jmpK_exit, jmpK_ret, nrmK_app, drwK_app, initE, vcR_nil, vcR_n, vcR_s, isCall, makes, hasU, slK, newOf, opR, binI, pickV, evS, evV, evX, evSs, evVs, evParts, evPartsS, fillV, catV, gOf, Go.Bx.get, Go.Bx.own?, cellsV, isCell, cut, cutD, nth, nthD, dropV, takeV, dropD, takeDV, putV, toDs, St.stp, Ef.stp, Stp.lg, lgs, setE, applyU, setO, delO, newN, keysO, callU, Ef.bad, Option.getD_some, Option.getD_none, Option.map_some, Option.map_none, List.all_cons, List.all_nil, List.map_cons, List.map_nil, List.append_nil, List.nil_append, List.cons_append, List.length_cons, List.length_nil, List.mem_cons, List.not_mem_nil, Bool.and_true, Bool.true_and, Bool.and_self, Bool.not_true, Bool.not_false, Bool.or_self, Bool.or_false, Bool.false_or, Bool.false_eq_true, Bool.true_eq_false, Bool.cond_true_left, Bool.cond_false_right, cond_true, cond_false, reduceCtorEq, ↓reduceIte, if_true, if_false, true_and, and_true, and_self, false_and, and_false, or_false, false_or, not_false_eq_true, not_true_eq_false, forall_const, true_implies, false_implies, implies_true, imp_self, eq_self, ne_eq, Nat.reduceAdd, Nat.reduceSub, Nat.reduceMul, Nat.reduceMod, Nat.reduceLeDiff, Nat.reduceEqDiff, Nat.zero_add, Nat.add_zero, Nat.le_refl, Nat.succ_ne_self, Nat.one_ne_zero, Nat.zero_ne_one, Int.toNat_natCast, litRow, List.drop_succ_cons, List.drop_zero, List.take_succ_cons, List.take_zero, pubE, pubV, pubL, pubO, pubFE, pubFV, pubFL, pubFO, delO, eqS, eqB, Nat.reduceLT, Nat.not_lt_zero, Nat.sub_zero, decide_true, decide_false, true_or, or_true, Int.le_refl, Int.cast_ofNat_Int, Int.reduceToNat, Int.reduceLT, Int.reduceLE, beq_self_eq_true, Nat.mul_one, Nat.one_mul, Nat.zero_mul])
        | refine And.intro (fun h => ?_) (fun h => ?_)
        | refine And.intro (by first | omega | (simp only [maxLen, decide_eq_true_eq, decide_eq_false_iff_not] at *; omega)) ?_
        | (refine TR.aslO rfl rfl rfl rfl trivial (Nat.le_of_ble_eq_true rfl) ?_
           try simp only [hg, ↓evSo_some, vcC_seq, vcC_reg, vcC_drw, vcC_skip, vcC_cond, vcC_block, vcC_exit, vcC_ret, vcC_bad, seqK_nrm, seqK_exit, seqK_ret, blkK_nrm, blkK_exit, blkK_ret, lopK_exit, lopK_ret, lopX_exit, lopX_ret, jmpK_nrm, jmpK_exit, jmpK_ret, nrmK_app, drwK_app, initE, vcR_nil, vcR_n, vcR_s, isCall, makes, hasU, slK, newOf, opR, binI, pickV, evS, evV, evX, evSs, evVs, evParts, evPartsS, fillV, catV, gOf, Go.Bx.get, Go.Bx.own?, cellsV, isCell, cut, cutD, nth, nthD, dropV, takeV, dropD, takeDV, putV, toDs, St.stp, Ef.stp, Stp.lg, lgs, setE, applyU, setO, delO, newN, keysO, callU, Ef.bad, Option.getD_some, Option.getD_none, Option.map_some, Option.map_none, List.all_cons, List.all_nil, List.map_cons, List.map_nil, List.append_nil, List.nil_append, List.cons_append, List.length_cons, List.length_nil, List.mem_cons, List.not_mem_nil, Bool.and_true, Bool.true_and, Bool.and_self, Bool.not_true, Bool.not_false, Bool.or_self, Bool.or_false, Bool.false_or, Bool.false_eq_true, Bool.true_eq_false, Bool.cond_true_left, Bool.cond_false_right, cond_true, cond_false, reduceCtorEq, ↓reduceIte, if_true, if_false, true_and, and_true, and_self, false_and, and_false, or_false, false_or, not_false_eq_true, not_true_eq_false, forall_const, true_implies, false_implies, implies_true, imp_self, eq_self, ne_eq, Nat.reduceAdd, Nat.reduceSub, Nat.reduceMul, Nat.reduceMod, Nat.reduceLeDiff, Nat.reduceEqDiff, Nat.zero_add, Nat.add_zero, Nat.le_refl, Nat.succ_ne_self, Nat.one_ne_zero, Nat.zero_ne_one, Int.toNat_natCast, litRow, List.drop_succ_cons, List.drop_zero, List.take_succ_cons, List.take_zero, pubE, pubV, pubL, pubO, pubFE, pubFV, pubFL, pubFO, delO, eqS, eqB, Nat.reduceLT, Nat.not_lt_zero, Nat.sub_zero, decide_true, decide_false, true_or, or_true, Int.le_refl, Int.cast_ofNat_Int, Int.reduceToNat, Int.reduceLT, Int.reduceLE, beq_self_eq_true, Nat.mul_one, Nat.one_mul, Nat.zero_mul])
        | refine And.intro trivial ?_
        | refine And.intro rfl ?_
        | fail
    · have h' := of_decide_eq_true h
      simp only [if_pos h', Nat.add_zero, Int.add_zero] at hap
      have ew : IntKind.i64.wrap (amt - rsL day (l.take k) - b.am) = amt - rsL day (l.take (k + 1)) := by rw [hap.2.1]; exact (wI (by omega)).trans (by omega)
      exact lopK.on (k + 1) hlt (by omega) (Wk.of [] hfn rfl (by (simp only [hap.1, hap.2.2, ew, EnvLe, VLe_refl, VLe_int, Go.Bx.get, reduceCtorEq, ↓reduceIte, true_and, and_true, eq_self, Nat.reduceEqDiff, Nat.succ_ne_self]) <;> (first | exact wS (by omega) | (rw [List.length_append]; exact wS (by omega)) | assumption)) (by simp only [OwnLe]))
    · have h' := of_decide_eq_false h
      simp only [if_neg h', Nat.zero_add, Int.add_zero] at hap
      have ew1 : IntKind.i64.wrap ((cntL day (l.take k) : Int) + 1) = ((cntL day (l.take (k + 1)) : Nat) : Int) := by rw [hap.1]; exact (wI (by omega)).trans (by omega)
      have ew2 : IntKind.i64.wrap (pdL day (l.take k) + b.pa) = pdL day (l.take (k + 1)) := by rw [hap.2.2]; exact wI (by omega)
      exact lopK.on (k + 1) hlt (by omega) (Wk.of [] hfn rfl (by (simp only [hap.2.1, ew1, ew2, EnvLe, VLe_refl, VLe_int, Go.Bx.get, reduceCtorEq, ↓reduceIte, true_and, and_true, eq_self, Nat.reduceEqDiff, Nat.succ_ne_self]) <;> (first | exact wS (by omega) | (rw [List.length_append]; exact wS (by omega)) | assumption)) (by simp only [OwnLe]))
  have hkk : k = l.length := by have := of_decide_eq_false h1; omega
  subst hkk
  clear h1 hk
  simp only [List.take_length, s1, s2, s3]
  have hpk := sumP_take hR (kD day l) 0
  generalize hK : kD day l = K at *
  repeat' first
      | (first
          | refine TR.p hP (by first | fail) (by repeat' first | exact trivial | (intro _; assumption) | apply And.intro) ?_
          | refine TR.gp hP rfl (fun _ => by first | fail) (fun _ => by repeat' first | exact trivial | (intro _; assumption) | apply And.intro) ?_
          | refine TR.pv hP rfl (by first | fail) trivial (by repeat' first | exact trivial | (intro _; assumption) | apply And.intro) ?_
         try simp only [↓evSo_some, vcC_seq, vcC_reg, vcC_drw, vcC_skip, vcC_cond, vcC_block, vcC_exit, vcC_ret, vcC_bad, seqK_nrm, seqK_exit, seqK_ret, blkK_nrm, blkK_exit, blkK_ret, lopK_exit, lopK_ret, lopX_exit, lopX_ret, jmpK_nrm, jmpK_exit, jmpK_ret, nrmK_app, drwK_app, initE, vcR_nil, vcR_n, vcR_s, isCall, makes, hasU, slK, newOf, opR, binI, pickV, evS, evV, evX, evSs, evVs, evParts, evPartsS, fillV, catV, gOf, Go.Bx.get, Go.Bx.own?, cellsV, isCell, cut, cutD, nth, nthD, dropV, takeV, dropD, takeDV, putV, toDs, St.stp, Ef.stp, Stp.lg, lgs, setE, applyU, setO, delO, newN, keysO, callU, Ef.bad, Option.getD_some, Option.getD_none, Option.map_some, Option.map_none, List.all_cons, List.all_nil, List.map_cons, List.map_nil, List.append_nil, List.nil_append, List.cons_append, List.length_cons, List.length_nil, List.mem_cons, List.not_mem_nil, Bool.and_true, Bool.true_and, Bool.and_self, Bool.not_true, Bool.not_false, Bool.or_self, Bool.or_false, Bool.false_or, Bool.false_eq_true, Bool.true_eq_false, Bool.cond_true_left, Bool.cond_false_right, cond_true, cond_false, reduceCtorEq, ↓reduceIte, if_true, if_false, true_and, and_true, and_self, false_and, and_false, or_false, false_or, not_false_eq_true, not_true_eq_false, forall_const, true_implies, false_implies, implies_true, imp_self, eq_self, ne_eq, Nat.reduceAdd, Nat.reduceSub, Nat.reduceMul, Nat.reduceMod, Nat.reduceLeDiff, Nat.reduceEqDiff, Nat.zero_add, Nat.add_zero, Nat.le_refl, Nat.succ_ne_self, Nat.one_ne_zero, Nat.zero_ne_one, Int.toNat_natCast, litRow, List.drop_succ_cons, List.drop_zero, List.take_succ_cons, List.take_zero, pubE, pubV, pubL, pubO, pubFE, pubFV, pubFL, pubFO, delO, eqS, eqB, Nat.reduceLT, Nat.not_lt_zero, Nat.sub_zero, decide_true, decide_false, true_or, or_true, Int.le_refl, Int.cast_ofNat_Int, Int.reduceToNat, Int.reduceLT, Int.reduceLE, beq_self_eq_true, Nat.mul_one, Nat.one_mul, Nat.zero_mul])
      | refine And.intro (fun h => ?_) (fun h => ?_)
      | refine And.intro (by first | omega | (simp only [maxLen, decide_eq_true_eq, decide_eq_false_iff_not] at *; omega)) ?_
      | (refine TR.aslO rfl rfl rfl rfl trivial (Nat.le_of_ble_eq_true rfl) ?_
         try simp only [↓evSo_some, vcC_seq, vcC_reg, vcC_drw, vcC_skip, vcC_cond, vcC_block, vcC_exit, vcC_ret, vcC_bad, seqK_nrm, seqK_exit, seqK_ret, blkK_nrm, blkK_exit, blkK_ret, lopK_exit, lopK_ret, lopX_exit, lopX_ret, jmpK_nrm, jmpK_exit, jmpK_ret, nrmK_app, drwK_app, initE, vcR_nil, vcR_n, vcR_s, isCall, makes, hasU, slK, newOf, opR, binI, pickV, evS, evV, evX, evSs, evVs, evParts, evPartsS, fillV, catV, gOf, Go.Bx.get, Go.Bx.own?, cellsV, isCell, cut, cutD, nth, nthD, dropV, takeV, dropD, takeDV, putV, toDs, St.stp, Ef.stp, Stp.lg, lgs, setE, applyU, setO, delO, newN, keysO, callU, Ef.bad, Option.getD_some, Option.getD_none, Option.map_some, Option.map_none, List.all_cons, List.all_nil, List.map_cons, List.map_nil, List.append_nil, List.nil_append, List.cons_append, List.length_cons, List.length_nil, List.mem_cons, List.not_mem_nil, Bool.and_true, Bool.true_and, Bool.and_self, Bool.not_true, Bool.not_false, Bool.or_self, Bool.or_false, Bool.false_or, Bool.false_eq_true, Bool.true_eq_false, Bool.cond_true_left, Bool.cond_false_right, cond_true, cond_false, reduceCtorEq, ↓reduceIte, if_true, if_false, true_and, and_true, and_self, false_and, and_false, or_false, false_or, not_false_eq_true, not_true_eq_false, forall_const, true_implies, false_implies, implies_true, imp_self, eq_self, ne_eq, Nat.reduceAdd, Nat.reduceSub, Nat.reduceMul, Nat.reduceMod, Nat.reduceLeDiff, Nat.reduceEqDiff, Nat.zero_add, Nat.add_zero, Nat.le_refl, Nat.succ_ne_self, Nat.one_ne_zero, Nat.zero_ne_one, Int.toNat_natCast, litRow, List.drop_succ_cons, List.drop_zero, List.take_succ_cons, List.take_zero, pubE, pubV, pubL, pubO, pubFE, pubFV, pubFL, pubFO, delO, eqS, eqB, Nat.reduceLT, Nat.not_lt_zero, Nat.sub_zero, decide_true, decide_false, true_or, or_true, Int.le_refl, Int.cast_ofNat_Int, Int.reduceToNat, Int.reduceLT, Int.reduceLE, beq_self_eq_true, Nat.mul_one, Nat.one_mul, Nat.zero_mul])
      | refine And.intro trivial ?_
      | refine And.intro rfl ?_
      | fail
  · have hc : l.length - K = 0 ∧ amt - sumA (l.take K) ≠ 0 := by simp at h; omega
    rw [if_pos (by omega), if_pos hc.2] at hT
    (refine RetK.pure (by simp only [rs24, ressS, resS, and_self]) (VLe.tups ?_); simp only [ressV, resV, Go.Bx.get, ↓reduceIte, eq_self, Nat.succ_ne_self])
    rw [hT]; exact ⟨VLe.nil rfl (by simp), VLe.refl _, trivial⟩
  · have hc : ¬ l.length - K = 0 ∧ amt - sumA (l.take K) < sumP (l.drop K) := by simp at h; omega
    rw [if_neg (by omega), if_pos hc.2] at hT
    (refine RetK.pure (by simp only [rs24, ressS, resS, and_self]) (VLe.tups ?_); simp only [ressV, resV, Go.Bx.get, ↓reduceIte, eq_self, Nat.succ_ne_self])
    rw [hT]; exact ⟨VLe.nil rfl (by simp), VLe.refl _, trivial⟩
  have hfin : ∃ A : Nat, (A : Int) = max 0 (amt - sumA (l.take K) - sumP (l.drop K)) ∧ turnR l amt day = (outL day A (l.length - K) 0 l, 0) ∧ (0 < l.length - K → amt - sumA (l.take K) - sumP (l.drop K) = (A : Int)) := by
    rename_i g
    simp at g h
    by_cases hz : l.length - K = 0
    · refine ⟨(max 0 (amt - sumA (l.take K) - sumP (l.drop K))).toNat, by omega, ?_, fun g => by omega⟩
      have hK2 : K = l.length := by omega
      rw [if_pos hK2, if_neg (by have := g (by omega); omega)] at hT
      rw [hT, s4, hK2, List.take_length, List.drop_length, updL, List.append_nil]
    · have h' := h (by omega)
      refine ⟨(amt - sumA (l.take K) - sumP (l.drop K)).toNat, by omega, ?_, fun _ => by omega⟩
      rw [if_neg (by omega), if_neg (by omega)] at hT
      rw [hT, s4]
  obtain ⟨A, hA1, hT2, hA2⟩ := hfin
  have hAle : A ≤ 4000000000000000000 := by omega
  rename_i g
  clear h g hT
  refine vcC.loop (X := Nat) (fun k => ⟨[(13, .osl 1000), (0, .d (slL l)), (2, .d (.int .i64 day)), (9, .d (.int .i64 (l.length - K : Nat))), (10, .d (.int .i64 (amt - sumA (l.take K)))), (11, .d (.int .i64 (sumP (l.drop K)))), (14, .d (.int .i64 (cntL day (l.take k)))), (15, .d (.int .i64 k))], [(1000, rowB (outL day A (l.length - K) 0 (l.take k)))], [1000]⟩)
    (fun k => k ≤ l.length) (fun k => l.length - k) 0 (Nat.zero_le _)
    ((Wk.row0 (s := 13) (k := 1000) (e := 41) (sz := 3) (f' := fun _ => []) rfl rfl (by simp)).trans (Wk.of _ hfn rfl (by simp only [slL, cntL, List.take_zero, EnvLe, VLe_refl, Go.Bx.get, reduceCtorEq, ↓reduceIte, and_self, eq_self, Nat.reduceEqDiff, Nat.succ_ne_self, List.take_zero, Int.cast_ofNat_Int]) (by simp only [rowB, List.take_zero, outL, OwnLe, exists_eq_left', Option.some.injEq, Go.Bx.own?, setO, List.length_nil, ↓reduceIte, and_true, eq_self, List.take_zero]; exact OLe.row rfl (fun i hi => absurd hi (Nat.not_lt_zero i))))) ?_
  intro k hk
  have hol : (outL day A (l.length - K) 0 (l.take k)).length = k := by rw [outL_len]; simp; omega
  simp only [rowB, slL, vcC_seq, vcC_reg, vcC_drw, vcC_skip, vcC_cond, vcC_block, vcC_exit, vcC_ret, seqK_nrm, seqK_exit, blkK_nrm, blkK_exit, lopK_exit, nrmK_app, vcR_nil, vcR_n, isCall, makes, newOf, opR, binI, evS, evV, evX, evSs, evVs, catV, Go.Bx.get, Go.Bx.own?, cellsV, isCell, cut, cutD, nth, dropV, takeV, dropD, takeDV, putV, toDs, St.stp, Ef.stp, Stp.lg, lgs, setE, applyU, setO, delO, newN, Option.getD_some, Option.map_some, List.all_cons, List.all_nil, List.map_nil, List.append_nil, List.nil_append, List.cons_append, List.length_cons, List.length_nil, List.mem_cons, List.not_mem_nil, Bool.and_self, Bool.false_eq_true, reduceCtorEq, ↓reduceIte, true_and, and_true, and_self, or_false, not_false_eq_true, forall_const, eq_self, Nat.reduceAdd, Nat.reduceLeDiff, Nat.reduceEqDiff, Nat.zero_add, Nat.add_zero, Nat.le_refl, Nat.succ_ne_self, Int.toNat_natCast, litRow, delO, Nat.reduceLT]
  refine ⟨fun h1 => ?_, fun h1 => ?_⟩
  · have hlt : k < l.length := by have := of_decide_eq_true h1; omega
    obtain ⟨b, hd, hg, hm, hat⟩ := drop_at hlt
    have hb := hR.each b hm
    have hba := hR.am_le hm
    have hap := (cnt_app day (l.take k) [b]).1
    have htk : l.take (k + 1) = l.take k ++ [b] := by rw [List.take_add_one, hat]; rfl
    have hot := outL_app day A (l.length - K) (l.take k) [b] 0
    rw [← htk] at hap hot
    simp only [cntL] at hap
    simp only [outL, Nat.zero_add] at hot
    have hcl : cntL day (l.take k) + cntL day [b] ≤ l.length - K := by
      have e := (cnt_app day (l.take (k + 1)) (l.drop (k + 1))).1
      rw [List.take_append_drop, s1, htk, (cnt_app day (l.take k) [b]).1] at e
      omega
    simp only [hg]
    repeat' first
        | (first
            | refine TR.p hP (by first | fail) (by repeat' first | exact trivial | (intro _; assumption) | apply And.intro) ?_
            | refine TR.gp hP rfl (fun _ => by first | fail) (fun _ => by repeat' first | exact trivial | (intro _; assumption) | apply And.intro) ?_
            | refine TR.pv hP rfl (by first | fail) trivial (by repeat' first | exact trivial | (intro _; assumption) | apply And.intro) ?_
           try simp only [hg, ↓evSo_some, vcC_seq, vcC_reg, vcC_drw, vcC_skip, vcC_cond, vcC_block, vcC_exit, vcC_ret, vcC_bad, seqK_nrm, seqK_exit, seqK_ret, blkK_nrm, blkK_exit, blkK_ret, lopK_exit, lopK_ret, lopX_exit, lopX_ret, jmpK_nrm, jmpK_exit, jmpK_ret, nrmK_app, drwK_app, initE, vcR_nil, vcR_n, vcR_s, isCall, makes, hasU, slK, newOf, opR, binI, pickV, evS, evV, evX, evSs, evVs, evParts, evPartsS, fillV, catV, gOf, Go.Bx.get, Go.Bx.own?, cellsV, isCell, cut, cutD, nth, nthD, dropV, takeV, dropD, takeDV, putV, toDs, St.stp, Ef.stp, Stp.lg, lgs, setE, applyU, setO, delO, newN, keysO, callU, Ef.bad, Option.getD_some, Option.getD_none, Option.map_some, Option.map_none, List.all_cons, List.all_nil, List.map_cons, List.map_nil, List.append_nil, List.nil_append, List.cons_append, List.length_cons, List.length_nil, List.mem_cons, List.not_mem_nil, Bool.and_true, Bool.true_and, Bool.and_self, Bool.not_true, Bool.not_false, Bool.or_self, Bool.or_false, Bool.false_or, Bool.false_eq_true, Bool.true_eq_false, Bool.cond_true_left, Bool.cond_false_right, cond_true, cond_false, reduceCtorEq, ↓reduceIte, if_true, if_false, true_and, and_true, and_self, false_and, and_false, or_false, false_or, not_false_eq_true, not_true_eq_false, forall_const, true_implies, false_implies, implies_true, imp_self, eq_self, ne_eq, Nat.reduceAdd, Nat.reduceSub, Nat.reduceMul, Nat.reduceMod, Nat.reduceLeDiff, Nat.reduceEqDiff, Nat.zero_add, Nat.add_zero, Nat.le_refl, Nat.succ_ne_self, Nat.one_ne_zero, Nat.zero_ne_one, Int.toNat_natCast, litRow, List.drop_succ_cons, List.drop_zero, List.take_succ_cons, List.take_zero, pubE, pubV, pubL, pubO, pubFE, pubFV, pubFL, pubFO, delO, eqS, eqB, Nat.reduceLT, Nat.not_lt_zero, Nat.sub_zero, decide_true, decide_false, true_or, or_true, Int.le_refl, Int.cast_ofNat_Int, Int.reduceToNat, Int.reduceLT, Int.reduceLE, beq_self_eq_true, Nat.mul_one, Nat.one_mul, Nat.zero_mul])
        | refine And.intro (fun h => ?_) (fun h => ?_)
        | refine And.intro (by first | omega | (simp only [maxLen, decide_eq_true_eq, decide_eq_false_iff_not] at *; omega)) ?_
        | (refine TR.aslO rfl rfl rfl rfl trivial (Nat.le_of_ble_eq_true rfl) ?_
           try simp only [hg, ↓evSo_some, vcC_seq, vcC_reg, vcC_drw, vcC_skip, vcC_cond, vcC_block, vcC_exit, vcC_ret, vcC_bad, seqK_nrm, seqK_exit, seqK_ret, blkK_nrm, blkK_exit, blkK_ret, lopK_exit, lopK_ret, lopX_exit, lopX_ret, jmpK_nrm, jmpK_exit, jmpK_ret, nrmK_app, drwK_app, initE, vcR_nil, vcR_n, vcR_s, isCall, makes, hasU, slK, newOf, opR, binI, pickV, evS, evV, evX, evSs, evVs, evParts, evPartsS, fillV, catV, gOf, Go.Bx.get, Go.Bx.own?, cellsV, isCell, cut, cutD, nth, nthD, dropV, takeV, dropD, takeDV, putV, toDs, St.stp, Ef.stp, Stp.lg, lgs, setE, applyU, setO, delO, newN, keysO, callU, Ef.bad, Option.getD_some, Option.getD_none, Option.map_some, Option.map_none, List.all_cons, List.all_nil, List.map_cons, List.map_nil, List.append_nil, List.nil_append, List.cons_append, List.length_cons, List.length_nil, List.mem_cons, List.not_mem_nil, Bool.and_true, Bool.true_and, Bool.and_self, Bool.not_true, Bool.not_false, Bool.or_self, Bool.or_false, Bool.false_or, Bool.false_eq_true, Bool.true_eq_false, Bool.cond_true_left, Bool.cond_false_right, cond_true, cond_false, reduceCtorEq, ↓reduceIte, if_true, if_false, true_and, and_true, and_self, false_and, and_false, or_false, false_or, not_false_eq_true, not_true_eq_false, forall_const, true_implies, false_implies, implies_true, imp_self, eq_self, ne_eq, Nat.reduceAdd, Nat.reduceSub, Nat.reduceMul, Nat.reduceMod, Nat.reduceLeDiff, Nat.reduceEqDiff, Nat.zero_add, Nat.add_zero, Nat.le_refl, Nat.succ_ne_self, Nat.one_ne_zero, Nat.zero_ne_one, Int.toNat_natCast, litRow, List.drop_succ_cons, List.drop_zero, List.take_succ_cons, List.take_zero, pubE, pubV, pubL, pubO, pubFE, pubFV, pubFL, pubFO, delO, eqS, eqB, Nat.reduceLT, Nat.not_lt_zero, Nat.sub_zero, decide_true, decide_false, true_or, or_true, Int.le_refl, Int.cast_ofNat_Int, Int.reduceToNat, Int.reduceLT, Int.reduceLE, beq_self_eq_true, Nat.mul_one, Nat.one_mul, Nat.zero_mul])
        | refine And.intro trivial ?_
        | refine And.intro rfl ?_
        | fail
    · have h' : ¬ b.du ≤ day := by have := of_decide_eq_true h; omega
      simp only [if_neg h', Nat.zero_add] at hap hot
      simp only [cntL, if_neg h'] at hcl
      have hA3 := hA2 (by omega)
      have ew0 : IntKind.i64.wrap (amt - sumA (l.take K) - sumP (l.drop K)) = (A : Int) := by rw [← hA3]; exact wI (by omega)
      have cp := rPart A (l.length - K) (cntL day (l.take k)) (by omega) (by omega) (by omega) hAle
      have hpl := partN_le A (l.length - K) (cntL day (l.take k)) (by omega) (by omega)
      have ew1 : IntKind.i64.wrap (b.pa + (partN A (l.length - K) (cntL day (l.take k)) : Nat)) = b.pa + (partN A (l.length - K) (cntL day (l.take k)) : Nat) := wI (by omega)
      have ew2 : IntKind.i64.wrap ((cntL day (l.take k) : Int) + 1) = ((cntL day (l.take (k + 1)) : Nat) : Int) := by rw [hap]; exact (wI (by omega)).trans (by omega)
      simp only [ew0]
      repeat' first
          | (first
              | refine TR.p hP (by first | exact cp) (by repeat' first | exact trivial | (intro _; assumption) | apply And.intro) ?_
              | refine TR.gp hP rfl (fun _ => by first | exact cp) (fun _ => by repeat' first | exact trivial | (intro _; assumption) | apply And.intro) ?_
              | refine TR.pv hP rfl (by first | exact cp) trivial (by repeat' first | exact trivial | (intro _; assumption) | apply And.intro) ?_
             try simp only [ew1, ew2, vcC_reg, seqK_nrm, blkK_nrm, nrmK_app, drwK_app, vcR_nil, vcR_n, isCall, makes, newOf, opR, binI, evS, evV, evX, evSs, evVs, catV, Go.Bx.get, Go.Bx.own?, cellsV, isCell, cut, dropV, takeV, putV, toDs, St.stp, Ef.stp, Stp.lg, lgs, setE, applyU, setO, delO, newN, Option.getD_some, Option.map_some, List.all_cons, List.all_nil, List.map_cons, List.map_nil, List.append_nil, List.nil_append, List.cons_append, List.length_cons, List.length_nil, List.mem_cons, List.not_mem_nil, Bool.and_self, Bool.false_eq_true, reduceCtorEq, ↓reduceIte, true_and, and_true, and_self, or_false, not_false_eq_true, forall_const, eq_self, Nat.reduceAdd, Nat.reduceLeDiff, Nat.reduceEqDiff, Nat.zero_add, Nat.le_refl, Nat.succ_ne_self, litRow, delO, Nat.reduceLT])
          | refine And.intro (fun h => ?_) (fun h => ?_)
          | refine And.intro (by first | omega | (simp only [maxLen, decide_eq_true_eq] at *; omega)) ?_
          | (refine TR.aslO rfl rfl rfl rfl trivial (Nat.le_of_ble_eq_true rfl) ?_
             try simp only [ew0, ew1, ew2, ↓evSo_some, vcC_seq, vcC_reg, vcC_drw, vcC_skip, vcC_cond, vcC_block, vcC_exit, vcC_ret, vcC_bad, seqK_nrm, seqK_exit, seqK_ret, blkK_nrm, blkK_exit, blkK_ret, lopK_exit, lopK_ret, lopX_exit, lopX_ret, jmpK_nrm, jmpK_exit, jmpK_ret, nrmK_app, drwK_app, initE, vcR_nil, vcR_n, vcR_s, isCall, makes, hasU, slK, newOf, opR, binI, pickV, evS, evV, evX, evSs, evVs, evParts, evPartsS, fillV, catV, gOf, Go.Bx.get, Go.Bx.own?, cellsV, isCell, cut, cutD, nth, nthD, dropV, takeV, dropD, takeDV, putV, toDs, St.stp, Ef.stp, Stp.lg, lgs, setE, applyU, setO, delO, newN, keysO, callU, Ef.bad, Option.getD_some, Option.getD_none, Option.map_some, Option.map_none, List.all_cons, List.all_nil, List.map_cons, List.map_nil, List.append_nil, List.nil_append, List.cons_append, List.length_cons, List.length_nil, List.mem_cons, List.not_mem_nil, Bool.and_true, Bool.true_and, Bool.and_self, Bool.not_true, Bool.not_false, Bool.or_self, Bool.or_false, Bool.false_or, Bool.false_eq_true, Bool.true_eq_false, Bool.cond_true_left, Bool.cond_false_right, cond_true, cond_false, reduceCtorEq, ↓reduceIte, if_true, if_false, true_and, and_true, and_self, false_and, and_false, or_false, false_or, not_false_eq_true, not_true_eq_false, forall_const, true_implies, false_implies, implies_true, imp_self, eq_self, ne_eq, Nat.reduceAdd, Nat.reduceSub, Nat.reduceMul, Nat.reduceMod, Nat.reduceLeDiff, Nat.reduceEqDiff, Nat.zero_add, Nat.add_zero, Nat.le_refl, Nat.succ_ne_self, Nat.one_ne_zero, Nat.zero_ne_one, Int.toNat_natCast, litRow, List.drop_succ_cons, List.drop_zero, List.take_succ_cons, List.take_zero, pubE, pubV, pubL, pubO, pubFE, pubFV, pubFL, pubFO, delO, eqS, eqB, Nat.reduceLT, Nat.not_lt_zero, Nat.sub_zero, decide_true, decide_false, true_or, or_true, Int.le_refl, Int.cast_ofNat_Int, Int.reduceToNat, Int.reduceLT, Int.reduceLE, beq_self_eq_true, Nat.mul_one, Nat.one_mul, Nat.zero_mul])
          | refine And.intro trivial ?_
          | refine And.intro rfl ?_
          | fail
      refine lopK.on (k + 1) hlt (by omega) ?_
      simp only [hot]
      exact (Wk.snoc (k := 101) _ hfn rfl rfl rfl rfl (OLe.app1 (cells := fun n : Bl => [.int .i64 n.du, .int .i64 n.am, .int .i64 n.pa]) (fun i hi => by simp only [if_pos hi]) (by simp)) (by (simp only [EnvLe, VLe_refl, VLe_int, Go.Bx.get, reduceCtorEq, ↓reduceIte, true_and, and_true, eq_self, Nat.reduceEqDiff, Nat.succ_ne_self]) <;> (first | exact wS (by omega) | (rw [List.length_append]; exact wS (by omega)) | assumption)) (by simp only [OwnLe]) (by simp) (by simp only [EnvLe, VLe_refl, Go.Bx.get, reduceCtorEq, ↓reduceIte, and_self, eq_self, Nat.reduceEqDiff]) (by simp only [OwnLe, OLe_refl, exists_eq_left', Option.some.injEq, Go.Bx.own?, setO, delO, ↓reduceIte, and_self, eq_self, delO]))
    · have h' : b.du ≤ day := by have := of_decide_eq_false h; omega
      simp only [if_pos h', Nat.add_zero] at hap hot
      refine lopK.on (k + 1) hlt (by omega) ?_
      simp only [hot, hap]
      exact (Wk.snoc (k := 101) _ hfn rfl rfl rfl rfl (OLe.app1 (cells := fun n : Bl => [.int .i64 n.du, .int .i64 n.am, .int .i64 n.pa]) (fun i hi => by simp only [if_pos hi]) (by simp)) (by (simp only [EnvLe, VLe_refl, VLe_int, Go.Bx.get, reduceCtorEq, ↓reduceIte, true_and, and_true, eq_self, Nat.reduceEqDiff, Nat.succ_ne_self]) <;> (first | exact wS (by omega) | (rw [List.length_append]; exact wS (by omega)) | assumption)) (by simp only [OwnLe]) (by simp) (by simp only [EnvLe, VLe_refl, Go.Bx.get, reduceCtorEq, ↓reduceIte, and_self, eq_self, Nat.reduceEqDiff]) (by simp only [OwnLe, OLe_refl, exists_eq_left', Option.some.injEq, Go.Bx.own?, setO, delO, ↓reduceIte, and_self, eq_self, delO]))
  · have hkk : k = l.length := by have := of_decide_eq_false h1; omega
    subst hkk
    repeat' first
        | (first
            | refine TR.p hP (by first | fail) (by repeat' first | exact trivial | (intro _; assumption) | apply And.intro) ?_
            | refine TR.gp hP rfl (fun _ => by first | fail) (fun _ => by repeat' first | exact trivial | (intro _; assumption) | apply And.intro) ?_
            | refine TR.pv hP rfl (by first | fail) trivial (by repeat' first | exact trivial | (intro _; assumption) | apply And.intro) ?_
           try simp only [↓evSo_some, vcC_seq, vcC_reg, vcC_drw, vcC_skip, vcC_cond, vcC_block, vcC_exit, vcC_ret, vcC_bad, seqK_nrm, seqK_exit, seqK_ret, blkK_nrm, blkK_exit, blkK_ret, lopK_exit, lopK_ret, lopX_exit, lopX_ret, jmpK_nrm, jmpK_exit, jmpK_ret, nrmK_app, drwK_app, initE, vcR_nil, vcR_n, vcR_s, isCall, makes, hasU, slK, newOf, opR, binI, pickV, evS, evV, evX, evSs, evVs, evParts, evPartsS, fillV, catV, gOf, Go.Bx.get, Go.Bx.own?, cellsV, isCell, cut, cutD, nth, nthD, dropV, takeV, dropD, takeDV, putV, toDs, St.stp, Ef.stp, Stp.lg, lgs, setE, applyU, setO, delO, newN, keysO, callU, Ef.bad, Option.getD_some, Option.getD_none, Option.map_some, Option.map_none, List.all_cons, List.all_nil, List.map_cons, List.map_nil, List.append_nil, List.nil_append, List.cons_append, List.length_cons, List.length_nil, List.mem_cons, List.not_mem_nil, Bool.and_true, Bool.true_and, Bool.and_self, Bool.not_true, Bool.not_false, Bool.or_self, Bool.or_false, Bool.false_or, Bool.false_eq_true, Bool.true_eq_false, Bool.cond_true_left, Bool.cond_false_right, cond_true, cond_false, reduceCtorEq, ↓reduceIte, if_true, if_false, true_and, and_true, and_self, false_and, and_false, or_false, false_or, not_false_eq_true, not_true_eq_false, forall_const, true_implies, false_implies, implies_true, imp_self, eq_self, ne_eq, Nat.reduceAdd, Nat.reduceSub, Nat.reduceMul, Nat.reduceMod, Nat.reduceLeDiff, Nat.reduceEqDiff, Nat.zero_add, Nat.add_zero, Nat.le_refl, Nat.succ_ne_self, Nat.one_ne_zero, Nat.zero_ne_one, Int.toNat_natCast, litRow, List.drop_succ_cons, List.drop_zero, List.take_succ_cons, List.take_zero, pubE, pubV, pubL, pubO, pubFE, pubFV, pubFL, pubFO, delO, eqS, eqB, Nat.reduceLT, Nat.not_lt_zero, Nat.sub_zero, decide_true, decide_false, true_or, or_true, Int.le_refl, Int.cast_ofNat_Int, Int.reduceToNat, Int.reduceLT, Int.reduceLE, beq_self_eq_true, Nat.mul_one, Nat.one_mul, Nat.zero_mul])
        | refine And.intro (fun h => ?_) (fun h => ?_)
        | refine And.intro (by first | omega | (simp only [maxLen, decide_eq_true_eq, decide_eq_false_iff_not] at *; omega)) ?_
        | (refine TR.aslO rfl rfl rfl rfl trivial (Nat.le_of_ble_eq_true rfl) ?_
           try simp only [↓evSo_some, vcC_seq, vcC_reg, vcC_drw, vcC_skip, vcC_cond, vcC_block, vcC_exit, vcC_ret, vcC_bad, seqK_nrm, seqK_exit, seqK_ret, blkK_nrm, blkK_exit, blkK_ret, lopK_exit, lopK_ret, lopX_exit, lopX_ret, jmpK_nrm, jmpK_exit, jmpK_ret, nrmK_app, drwK_app, initE, vcR_nil, vcR_n, vcR_s, isCall, makes, hasU, slK, newOf, opR, binI, pickV, evS, evV, evX, evSs, evVs, evParts, evPartsS, fillV, catV, gOf, Go.Bx.get, Go.Bx.own?, cellsV, isCell, cut, cutD, nth, nthD, dropV, takeV, dropD, takeDV, putV, toDs, St.stp, Ef.stp, Stp.lg, lgs, setE, applyU, setO, delO, newN, keysO, callU, Ef.bad, Option.getD_some, Option.getD_none, Option.map_some, Option.map_none, List.all_cons, List.all_nil, List.map_cons, List.map_nil, List.append_nil, List.nil_append, List.cons_append, List.length_cons, List.length_nil, List.mem_cons, List.not_mem_nil, Bool.and_true, Bool.true_and, Bool.and_self, Bool.not_true, Bool.not_false, Bool.or_self, Bool.or_false, Bool.false_or, Bool.false_eq_true, Bool.true_eq_false, Bool.cond_true_left, Bool.cond_false_right, cond_true, cond_false, reduceCtorEq, ↓reduceIte, if_true, if_false, true_and, and_true, and_self, false_and, and_false, or_false, false_or, not_false_eq_true, not_true_eq_false, forall_const, true_implies, false_implies, implies_true, imp_self, eq_self, ne_eq, Nat.reduceAdd, Nat.reduceSub, Nat.reduceMul, Nat.reduceMod, Nat.reduceLeDiff, Nat.reduceEqDiff, Nat.zero_add, Nat.add_zero, Nat.le_refl, Nat.succ_ne_self, Nat.one_ne_zero, Nat.zero_ne_one, Int.toNat_natCast, litRow, List.drop_succ_cons, List.drop_zero, List.take_succ_cons, List.take_zero, pubE, pubV, pubL, pubO, pubFE, pubFV, pubFL, pubFO, delO, eqS, eqB, Nat.reduceLT, Nat.not_lt_zero, Nat.sub_zero, decide_true, decide_false, true_or, or_true, Int.le_refl, Int.cast_ofNat_Int, Int.reduceToNat, Int.reduceLT, Int.reduceLE, beq_self_eq_true, Nat.mul_one, Nat.one_mul, Nat.zero_mul])
        | refine And.intro trivial ?_
        | refine And.intro rfl ?_
        | fail
    refine RetK.mk _ (Wk.pub 1000 rfl) (by simp only [rs24, ressS, resS, delO, ↓reduceIte, and_self, eq_self, pubE, pubV, pubO, delO]) ?_ trivial
    simp only [rs24, retV, ressV, resV, Go.Bx.get, ↓reduceIte, eq_self, Nat.succ_ne_self, pubE, pubV]
    rw [hT2]
    simp only [List.take_length]
    exact VLe.tups ⟨VLe.refl _, VLe.refl _, trivial⟩
end Go.Proofs.Ythkfedghiklmeaa
