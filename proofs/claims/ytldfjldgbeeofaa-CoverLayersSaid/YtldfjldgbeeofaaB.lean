import Derived.Test.YtldfjldgbeeofaaA
namespace Go.Proofs.Ytldfjldgbeeofaa
open Go.Bx
set_option maxRecDepth 10000

/-! An amount by parts of 10000, to the nearest one. -/
def heN (x b : Nat) : Nat := x * b / 10000 + (if upE (x * b / 10000) (x * b % 10000) 10000 = true then 1 else 0)
theorem he_spec (x b : Nat) : 10000 * heN x b ≤ x * b + 5000 ∧ x * b ≤ 10000 * heN x b + 5000 ∧ ((10000 * heN x b = x * b + 5000 ∨ x * b = 10000 * heN x b + 5000) → heN x b % 2 = 0) := by
  unfold heN upE
  generalize x * b = y
  split
  · rename_i h
    simp only [Bool.or_eq_true, Bool.and_eq_true, decide_eq_true_eq] at h
    omega
  · rename_i h
    simp only [Bool.or_eq_true, Bool.and_eq_true, decide_eq_true_eq, not_or, not_and] at h
    omega
theorem he_mono {x y b : Nat} (h : x ≤ y) : heN x b ≤ heN y b := by
  have h1 := he_spec x b
  have h2 := he_spec y b
  have h3 : x * b ≤ y * b := Nat.mul_le_mul_right _ h
  generalize x * b = a at *
  generalize y * b = c at *
  omega
theorem he_lip {x m b : Nat} (hb : b ≤ 10000) : heN (x + m) b ≤ heN x b + m := by
  have h1 := he_spec x b
  have h2 := he_spec (x + m) b
  have h3 : m * b ≤ m * 10000 := Nat.mul_le_mul_left _ hb
  rw [Nat.add_mul] at h2
  by_cases hm : m = 0
  · subst hm; simp
  by_cases h4 : b = 10000
  · subst h4; omega
  · have h5 : m * b ≤ m * 9999 := Nat.mul_le_mul_left _ (by omega)
    generalize x * b = a at *
    generalize m * b = c at *
    omega
theorem he_le {x b : Nat} (hb : b ≤ 10000) : heN x b ≤ x := by
  have h := he_lip (x := 0) (m := x) hb
  have h0 : heN 0 b = 0 := by have := he_spec 0 b; omega
  rw [Nat.zero_add, h0, Nat.zero_add] at h
  exact h
theorem he_full (x : Nat) : heN x 10000 = x := by
  have := he_spec x 10000
  omega
theorem bp_he {x b : Nat} (hx : x ≤ 1000000000000000) (hb : b ≤ 10000) : bpR (x : Int) (b : Int) = (((heN x b : Nat) : Int), 0) := by
  have h1 : x * b ≤ 1000000000000000 * 10000 := Nat.mul_le_mul hx hb
  have h2 := he_le (x := x) hb
  have e : ((10000 : Int)).toNat = 10000 := rfl
  unfold bpR ofR
  rw [if_neg (by omega), if_neg (by omega), e]
  simp only [Int.toNat_natCast]
  rw [if_neg (by omega), if_neg]
  · rfl
  · have := h2; unfold heN at this; omega

structure Fine (k : Cv) : Prop where
  pe : 0 ≤ k.pe ∧ k.pe < 8
  sh : 1 ≤ k.sh ∧ k.sh ≤ 10000
  de : 0 ≤ k.de ∧ k.de < k.li
  li : k.li ≤ k.ag
  ag : k.ag ≤ 1000000000000000
def I64 (n : Int) : Prop := -9223372036854775808 ≤ n ∧ n ≤ 9223372036854775807
theorem right_iff {k : Cv} (h1 : I64 k.li) (h2 : I64 k.ag) : rightC k = true ↔ Fine k := by
  unfold I64 at h1 h2
  simp only [rightC, sdR, Bool.and_eq_true, decide_eq_true_eq, IntKind.wrap_i64, List.getD_cons_succ, List.getD_cons_zero, Bool.not_eq_true', decide_eq_false_iff_not]
  constructor
  · intro h
    exact ⟨by omega, by omega, by omega, by omega, by omega⟩
  · rintro ⟨a, b, c, d, e⟩
    exact ⟨⟨⟨⟨by omega, by omega⟩, by omega, by omega⟩, by omega, by omega, by omega, by omega, trivial⟩, by omega⟩
/-- What is borne of a loss, ahead of the aggregate. -/
def amtH (k : Cv) (loss : Int) : Nat := heN (max 0 (min (loss - k.de) k.li)).toNat k.sh.toNat
theorem pays_eq {k : Cv} (hr : rightC k = true) (hf : Fine k) {loss used : Int} (h1 : 0 ≤ loss) (h2 : loss ≤ 9223372036854775807) (h3 : 0 ≤ used) (h4 : used ≤ 9223372036854775807) :
    paysC k loss used = max 0 (min (amtH k loss : Int) (k.ag - used)) := by
  obtain ⟨a, b, c, d, e⟩ := hf
  have e1 : claimC k loss = ((max 0 (min (loss - k.de) k.li)).toNat : Int) := by
    simp only [claimC, leastR, List.foldl_cons, List.foldl_nil]
    rw [wI (by omega)]; omega
  have e2 : k.sh = (k.sh.toNat : Int) := by omega
  rw [paysC, if_neg (by rw [hr]; simp; omega), e1, e2, bp_he (by omega) (by omega)]
  simp only [leastR, List.foldl_cons, List.foldl_nil, amtH]
  rw [wI (by omega)]; omega
theorem amt_le {k : Cv} (hf : Fine k) (loss : Int) : (amtH k loss : Int) ≤ max 0 (min (loss - k.de) k.li) := by
  have := he_le (x := (max 0 (min (loss - k.de) k.li)).toNat) (b := k.sh.toNat) (by have := hf.sh; omega)
  unfold amtH; omega
theorem amt_mono {k : Cv} {x m : Int} (hf : Fine k) (hm : 0 ≤ m) : amtH k x ≤ amtH k (x + m) ∧ (amtH k (x + m) : Int) ≤ amtH k x + m := by
  unfold amtH
  have hs := hf.sh
  constructor
  · exact he_mono (by omega)
  · obtain ⟨j, hj⟩ : ∃ j : Nat, (max 0 (min (x + m - k.de) k.li)).toNat = (max 0 (min (x - k.de) k.li)).toNat + j := ⟨_, (Nat.add_sub_cancel' (by omega)).symm⟩
    have := he_lip (x := (max 0 (min (x - k.de) k.li)).toNat) (m := j) (b := k.sh.toNat) (by omega)
    rw [hj]
    omega

/-! The document's answer. -/
theorem s10 (k : Cv) (h1 : I64 k.li) (h2 : I64 k.ag) : Ctr Try.prog 10 [vC k] [] (.d (.bool (rightC k))) [] [] := by
  have hr := right_iff h1 h2
  refine pure10 (by simp) rfl rfl ?_
  intro c hP hfn
  simp only [c10, vC, cC, vcC_seq, vcC_reg, vcC_skip, vcC_cond, vcC_ret, seqK_nrm, seqK_ret, nrmK_app, initE, vcR_nil, vcR_n, vcR_s, isCall, makes, hasU, newOf, opR, binI, pickV, evS, evV, evX, gOf, Go.Bx.get, Go.Bx.own?, cellsV, isCell, cut, nth, St.stp, Ef.stp, lgs, setE, applyU, setO, newN, Option.getD_some, List.all_cons, List.all_nil, List.length_cons, List.length_nil, List.mem_cons, List.not_mem_nil, Bool.true_and, Bool.and_self, Bool.false_eq_true, Bool.cond_true_left, Bool.cond_false_right, ↓reduceIte, true_and, and_true, and_self, or_false, not_false_eq_true, forall_const, implies_true, imp_self, eq_self, Nat.reduceAdd, Nat.reduceLeDiff, Nat.reduceEqDiff, Nat.zero_add, Nat.add_zero, Nat.le_refl, Nat.succ_ne_self]
  repeat' first
      | (first
          | refine TR.p hP (by first | fail) (by repeat' first | exact trivial | (intro _; assumption) | apply And.intro) ?_
          | refine TR.gp hP rfl (fun _ => by first | fail) (fun _ => by repeat' first | exact trivial | (intro _; assumption) | apply And.intro) ?_
          | refine TR.pv hP rfl (by first | fail) trivial (by repeat' first | exact trivial | (intro _; assumption) | apply And.intro) ?_
         try simp only [↓evSo_some, vcC_seq, vcC_reg, vcC_drw, vcC_skip, vcC_cond, vcC_block, vcC_exit, vcC_ret, vcC_bad, seqK_nrm, seqK_exit, seqK_ret, blkK_nrm, blkK_exit, blkK_ret, lopK_exit, lopK_ret, lopX_exit, lopX_ret, nrmK_app, drwK_app, initE, vcR_nil, vcR_n, vcR_s, isCall, makes, hasU, slK, newOf, opR, binI, pickV, evS, evV, evX, evSs, evVs, evParts, evPartsS, fillV, catV, gOf, Go.Bx.get, Go.Bx.own?, cellsV, isCell, cut, cutD, nth, nthD, dropV, takeV, dropD, takeDV, putV, toDs, St.stp, Ef.stp, Stp.lg, lgs, setE, applyU, setO, delO, newN, keysO, callU, Ef.bad, Option.getD_some, Option.getD_none, Option.map_some, Option.map_none, List.all_cons, List.all_nil, List.map_cons, List.map_nil, List.append_nil, List.nil_append, List.cons_append, List.length_cons, List.length_nil, List.mem_cons, List.not_mem_nil, Bool.and_true, Bool.true_and, Bool.and_self, Bool.not_true, Bool.not_false, Bool.or_self, Bool.or_false, Bool.false_or, Bool.false_eq_true, Bool.true_eq_false, Bool.cond_true_left, Bool.cond_false_right, cond_true, cond_false, reduceCtorEq, ↓reduceIte, if_true, if_false, true_and, and_true, and_self, false_and, and_false, or_false, false_or, not_false_eq_true, not_true_eq_false, forall_const, true_implies, false_implies, implies_true, imp_self, eq_self, ne_eq, Nat.reduceAdd, Nat.reduceSub, Nat.reduceMul, Nat.reduceLeDiff, Nat.reduceEqDiff, Nat.zero_add, Nat.add_zero, Nat.le_refl, Nat.succ_ne_self, Nat.one_ne_zero, Nat.zero_ne_one, Int.toNat_natCast, litRow, List.drop_succ_cons, List.drop_zero, List.take_succ_cons, List.take_zero, pubE, pubV, pubL, pubO, eqS, eqB, Nat.reduceLT, Nat.not_lt_zero, Nat.sub_zero, decide_true, decide_false, true_or, or_true, Int.le_refl, Int.cast_ofNat_Int, Int.reduceToNat, Int.reduceLT, Int.reduceLE, beq_self_eq_true, Nat.mul_one, Nat.one_mul, Nat.zero_mul])
      | refine And.intro (fun h => ?_) (fun h => ?_)
      | refine And.intro (by first | omega | (simp only [maxLen, decide_eq_true_eq, decide_eq_false_iff_not] at *; omega)) ?_
      | refine And.intro rfl ?_
      | fail
  · exact RetK.pure (by simp only [rs10, ressS, resS, and_self]) (by (simp only [rs10, retV, resV, Go.Bx.get, ↓reduceIte, eq_self, VLe_bool, Go.Bx.get, ↓reduceIte, eq_self]) <;> (first | (symm; rw [← Bool.not_eq_true, hr]; rintro ⟨a, b, c, d, e⟩; simp only [Bool.or_eq_true, decide_eq_true_eq] at h; omega)))
  · exact RetK.pure (by simp only [rs10, ressS, resS, and_self]) (by (simp only [rs10, retV, resV, Go.Bx.get, ↓reduceIte, eq_self, VLe_bool, Go.Bx.get, ↓reduceIte, eq_self]) <;> (first | (rw [Bool.eq_iff_iff, hr]; simp only [Bool.or_eq_false_iff, decide_eq_false_iff_not] at h; simp only [Bool.and_eq_true, decide_eq_true_eq]; exact ⟨fun g => ⟨by omega, by omega, by omega, by omega, by omega⟩, fun g => by have := g.de; have := g.li; have := g.ag; omega⟩)))
theorem part_he (x b : Nat) : heN x b = x / 10000 * b + (x % 10000 * b / 10000 + (if 5000 < x % 10000 * b % 10000 ∨ (x % 10000 * b % 10000 = 5000 ∧ (x / 10000 * b + x % 10000 * b / 10000) % 2 = 1) then 1 else 0)) := by
  have e : x * b = x / 10000 * b * 10000 + x % 10000 * b := by
    have := Nat.div_add_mod' x 10000
    rw [Nat.mul_right_comm, ← Nat.add_mul, this]
  unfold heN upE
  rw [e]
  generalize x / 10000 * b = w
  generalize x % 10000 * b = r
  have e1 : (w * 10000 + r) / 10000 = w + r / 10000 := by omega
  have e2 : (w * 10000 + r) % 10000 = r % 10000 := by omega
  rw [e1, e2]
  simp only [Bool.or_eq_true, Bool.and_eq_true, decide_eq_true_eq]
  split <;> split <;> omega
theorem s17 (x b : Nat) (hx : x ≤ 1000000000000000) (hb : b ≤ 10000) : Ctr Try.prog 17 [.d (.int .i64 x), .d (.int .i64 b)] [] (.d (.int .i64 (heN x b : Nat))) [] [] := by
  have e1 : (x : Int).tdiv 10000 = ((x / 10000 : Nat) : Int) := tdiv_nat x 10000
  have e2 : (x : Int).tmod 10000 = ((x % 10000 : Nat) : Int) := tmod_nat x 10000
  have b1 : x / 10000 * b ≤ 100000000000 * 10000 := Nat.mul_le_mul (by omega) hb
  have b2 : x % 10000 * b ≤ 10000 * 10000 := Nat.mul_le_mul (by omega) hb
  have e0 : IntKind.i64.wrap ((x / 10000 : Nat) : Int) = ((x / 10000 : Nat) : Int) := wI (by omega)
  have e3 : IntKind.i64.wrap (((x / 10000 : Nat) : Int) * (b : Int)) = ((x / 10000 * b : Nat) : Int) := by rw [← Int.natCast_mul]; exact wI (by omega)
  have e4 : IntKind.i64.wrap (((x % 10000 : Nat) : Int) * (b : Int)) = ((x % 10000 * b : Nat) : Int) := by rw [← Int.natCast_mul]; exact wI (by omega)
  have hp := part_he x b
  have e5 : (((x % 10000 * b : Nat) : Int)).tdiv 10000 = ((x % 10000 * b / 10000 : Nat) : Int) := tdiv_nat _ 10000
  have e6 : (((x % 10000 * b : Nat) : Int)).tmod 10000 = ((x % 10000 * b % 10000 : Nat) : Int) := tmod_nat _ 10000
  have e7 : IntKind.i64.wrap ((x % 10000 * b / 10000 : Nat) : Int) = ((x % 10000 * b / 10000 : Nat) : Int) := wI (by omega)
  have e8 : IntKind.i64.wrap (((x / 10000 * b : Nat) : Int) + ((x % 10000 * b / 10000 : Nat) : Int)) = ((x / 10000 * b + x % 10000 * b / 10000 : Nat) : Int) := (wI (by omega)).trans (by omega)
  have e9 : (((x / 10000 * b + x % 10000 * b / 10000 : Nat) : Int)).tmod 2 = (((x / 10000 * b + x % 10000 * b / 10000) % 2 : Nat) : Int) := tmod_nat _ 2
  refine pure17 (by simp) rfl rfl ?_
  intro c hP hfn
  simp only [c17, e0, e1, e2, e3, e4, e5, e6, e7, e8, e9, vcC_seq, vcC_reg, vcC_skip, vcC_cond, vcC_ret, seqK_nrm, nrmK_app, initE, vcR_nil, vcR_n, vcR_s, isCall, makes, hasU, newOf, opR, binI, pickV, evS, evV, evX, gOf, Go.Bx.get, St.stp, Ef.stp, lgs, setE, applyU, newN, Option.getD_some, List.not_mem_nil, Bool.true_and, Bool.false_eq_true, Bool.cond_true_left, Bool.cond_false_right, reduceCtorEq, ↓reduceIte, true_and, and_true, and_self, not_false_eq_true, forall_const, implies_true, imp_self, eq_self, ne_eq, Nat.reduceEqDiff, Nat.zero_add, Nat.succ_ne_self, Nat.zero_ne_one]
  generalize x / 10000 * b = w at *
  generalize x % 10000 * b = r at *
  have d1 : IntKind.i64.wrap (((r / 10000 : Nat) : Int) + 1) = ((r / 10000 + 1 : Nat) : Int) := (wI (by omega)).trans (by omega)
  have d2 : IntKind.i64.wrap ((w : Int) + ((r / 10000 + 1 : Nat) : Int)) = ((w + (r / 10000 + 1) : Nat) : Int) := (wI (by omega)).trans (by omega)
  have d3 : IntKind.i64.wrap ((w : Int) + ((r / 10000 : Nat) : Int)) = ((w + r / 10000 : Nat) : Int) := e8
  generalize heN x b = z at *
  repeat' first
      | (first
          | refine TR.p hP (by first | fail) (by repeat' first | exact trivial | (intro _; assumption) | apply And.intro) ?_
          | refine TR.gp hP rfl (fun _ => by first | fail) (fun _ => by repeat' first | exact trivial | (intro _; assumption) | apply And.intro) ?_
          | refine TR.pv hP rfl (by first | fail) trivial (by repeat' first | exact trivial | (intro _; assumption) | apply And.intro) ?_
         try simp only [d1, d2, d3, ↓evSo_some, vcC_seq, vcC_reg, vcC_drw, vcC_skip, vcC_cond, vcC_block, vcC_exit, vcC_ret, vcC_bad, seqK_nrm, seqK_exit, seqK_ret, blkK_nrm, blkK_exit, blkK_ret, lopK_exit, lopK_ret, lopX_exit, lopX_ret, nrmK_app, drwK_app, initE, vcR_nil, vcR_n, vcR_s, isCall, makes, hasU, slK, newOf, opR, binI, pickV, evS, evV, evX, evSs, evVs, evParts, evPartsS, fillV, catV, gOf, Go.Bx.get, Go.Bx.own?, cellsV, isCell, cut, cutD, nth, nthD, dropV, takeV, dropD, takeDV, putV, toDs, St.stp, Ef.stp, Stp.lg, lgs, setE, applyU, setO, delO, newN, keysO, callU, Ef.bad, Option.getD_some, Option.getD_none, Option.map_some, Option.map_none, List.all_cons, List.all_nil, List.map_cons, List.map_nil, List.append_nil, List.nil_append, List.cons_append, List.length_cons, List.length_nil, List.mem_cons, List.not_mem_nil, Bool.and_true, Bool.true_and, Bool.and_self, Bool.not_true, Bool.not_false, Bool.or_self, Bool.or_false, Bool.false_or, Bool.false_eq_true, Bool.true_eq_false, Bool.cond_true_left, Bool.cond_false_right, cond_true, cond_false, reduceCtorEq, ↓reduceIte, if_true, if_false, true_and, and_true, and_self, false_and, and_false, or_false, false_or, not_false_eq_true, not_true_eq_false, forall_const, true_implies, false_implies, implies_true, imp_self, eq_self, ne_eq, Nat.reduceAdd, Nat.reduceSub, Nat.reduceMul, Nat.reduceLeDiff, Nat.reduceEqDiff, Nat.zero_add, Nat.add_zero, Nat.le_refl, Nat.succ_ne_self, Nat.one_ne_zero, Nat.zero_ne_one, Int.toNat_natCast, litRow, List.drop_succ_cons, List.drop_zero, List.take_succ_cons, List.take_zero, pubE, pubV, pubL, pubO, eqS, eqB, Nat.reduceLT, Nat.not_lt_zero, Nat.sub_zero, decide_true, decide_false, true_or, or_true, Int.le_refl, Int.cast_ofNat_Int, Int.reduceToNat, Int.reduceLT, Int.reduceLE, beq_self_eq_true, Nat.mul_one, Nat.one_mul, Nat.zero_mul])
      | refine And.intro (fun h => ?_) (fun h => ?_)
      | refine And.intro (by first | omega | (simp only [maxLen, decide_eq_true_eq, decide_eq_false_iff_not] at *; omega)) ?_
      | refine And.intro rfl ?_
      | fail
  · have h' : 5000 < r % 10000 ∨ (r % 10000 = 5000 ∧ (w + r / 10000) % 2 = 1) := by
      simp only [Bool.or_eq_true, Bool.and_eq_true, decide_eq_true_eq, beq_iff_eq] at h; omega
    rw [if_pos h'] at hp
    exact RetK.pure (by simp only [rs17, ressS, resS, and_self]) (by (simp only [rs17, retV, resV, Go.Bx.get, ↓reduceIte, eq_self, VLe_int, Go.Bx.get, ↓reduceIte, eq_self]) <;> (first | (rw [d1, d2, hp])))
  · have h' : ¬ (5000 < r % 10000 ∨ (r % 10000 = 5000 ∧ (w + r / 10000) % 2 = 1)) := by
      simp only [Bool.or_eq_false_iff, Bool.and_eq_false_iff, decide_eq_false_iff_not, beq_eq_false_iff_ne, ne_eq] at h; omega
    rw [if_neg h'] at hp
    exact RetK.pure (by simp only [rs17, ressS, resS, and_self]) (by (simp only [rs17, retV, resV, Go.Bx.get, ↓reduceIte, eq_self, VLe_int, Go.Bx.get, ↓reduceIte, eq_self]) <;> (first | (rw [hp]; rfl)))
theorem s12 (k : Cv) (loss used : Int) (h1 : I64 k.li) (h2 : I64 k.ag) (h3 : loss ≤ 9223372036854775807) (h4 : used ≤ 9223372036854775807) : Ctr Try.prog 12 [vC k, .d (.int .i64 loss), .d (.int .i64 used)] [] (.d (.int .i64 (paysC k loss used))) [] [] := by
  refine pure12 (by simp) rfl rfl ?_
  intro c hP hfn
  simp only [c12, vC, cC, vcC_seq, vcC_reg, seqK_nrm, nrmK_app, initE, vcR_nil, vcR_n, isCall, makes, newOf, opR, evS, evV, evX, Go.Bx.get, Go.Bx.own?, cellsV, isCell, cut, dropV, takeV, St.stp, Ef.stp, lgs, setE, applyU, setO, newN, Option.getD_some, List.all_cons, List.all_nil, List.length_cons, List.length_nil, List.not_mem_nil, Bool.and_self, Bool.false_eq_true, ↓reduceIte, true_and, and_self, not_false_eq_true, eq_self, Nat.reduceAdd, Nat.reduceEqDiff, Nat.zero_add, Nat.le_refl]
  refine TR.p hP (s10 k h1 h2) (by repeat' first | exact trivial | (intro _; assumption) | apply And.intro) ?_
  simp only [vcC_seq, vcC_reg, vcC_drw, vcC_skip, vcC_cond, vcC_ret, seqK_nrm, seqK_ret, nrmK_app, vcR_nil, vcR_n, vcR_s, isCall, makes, hasU, newOf, opR, binI, pickV, evS, evV, evX, gOf, Go.Bx.get, Go.Bx.own?, cut, nth, St.stp, Ef.stp, Stp.lg, lgs, setE, applyU, newN, Option.getD_some, List.map_nil, List.append_nil, List.nil_append, List.cons_append, List.length_cons, List.length_nil, List.mem_cons, List.not_mem_nil, Bool.true_and, Bool.false_eq_true, Bool.cond_true_left, reduceCtorEq, ↓reduceIte, true_and, and_true, and_self, or_false, not_false_eq_true, forall_const, implies_true, imp_self, eq_self, Nat.reduceAdd, Nat.reduceLeDiff, Nat.reduceEqDiff, Nat.zero_add, Nat.le_refl, Nat.succ_ne_self, Nat.zero_ne_one]
  refine And.intro (fun h => ?_) (fun h => ?_)
  · exact RetK.pure (by simp only [rs12, ressS, resS, and_self]) (by (simp only [rs12, retV, resV, Go.Bx.get, ↓reduceIte, eq_self, VLe_int, Go.Bx.get, ↓reduceIte, eq_self]) <;> (first | rw [paysC, if_pos h]))
  have hr : rightC k = true := by
    cases hq : rightC k with
    | true => rfl
    | false => rw [hq] at h; simp at h
  have hf := (right_iff h1 h2).1 hr
  have hu : 0 ≤ loss ∧ 0 ≤ used := by rw [hr] at h; simp at h; omega
  have hp := pays_eq hr hf hu.1 h3 hu.2 h4
  obtain ⟨a, b, c, d, e⟩ := hf
  have e1 : IntKind.i64.wrap (loss - k.de) = loss - k.de := wI (by omega)
  have e2 : IntKind.i64.wrap (k.ag - used) = k.ag - used := wI (by omega)
  have e3 : max 0 (min (loss - k.de) k.li) = ((max 0 (min (loss - k.de) k.li)).toNat : Int) := by omega
  have e4 : k.sh = (k.sh.toNat : Int) := by omega
  have e5 := s17 (max 0 (min (loss - k.de) k.li)).toNat k.sh.toNat (by omega) (by omega)
  rw [← e3, ← e4] at e5
  simp only [e1]
  repeat' first
      | (first
          | refine TR.p hP (by first | exact e5) (by repeat' first | exact trivial | (intro _; assumption) | apply And.intro) ?_
          | refine TR.gp hP rfl (fun _ => by first | exact e5) (fun _ => by repeat' first | exact trivial | (intro _; assumption) | apply And.intro) ?_
          | refine TR.pv hP rfl (by first | exact e5) trivial (by repeat' first | exact trivial | (intro _; assumption) | apply And.intro) ?_
         try simp only [e2, vcC_ret, seqK_nrm, drwK_app, vcR_nil, vcR_n, isCall, makes, newOf, opR, binI, evS, evV, evX, Go.Bx.get, Go.Bx.own?, cut, nth, St.stp, Ef.stp, Stp.lg, lgs, setE, applyU, newN, List.map_nil, List.append_nil, List.nil_append, List.cons_append, List.length_cons, List.length_nil, Bool.false_eq_true, reduceCtorEq, ↓reduceIte, true_and, and_self, eq_self, Nat.reduceAdd, Nat.reduceLeDiff, Nat.reduceEqDiff, Nat.zero_add, Nat.succ_ne_self])
      | refine And.intro (fun h => ?_) (fun h => ?_)
      | refine And.intro (by first | omega | (simp only [maxLen, decide_eq_true_eq, decide_eq_false_iff_not] at *; omega)) ?_
      | refine And.intro rfl ?_
      | fail
  all_goals exact RetK.pure (by simp only [rs12, ressS, resS, and_self]) (by (simp only [rs12, retV, resV, Go.Bx.get, ↓reduceIte, eq_self, VLe_int, Go.Bx.get, ↓reduceIte, eq_self]) <;> (first | (rw [hp, amtH])))

/-! The laws. -/
def cv0 : Cv := ⟨1, 1000, 1500, 100, 8000⟩
theorem s8 : Ctr Try.prog 8 [] [] (.d (.bool true)) [] [] := by
  refine pure8 (by simp) rfl rfl ?_
  intro c hP hfn
  simp only [c8, vcC_seq, vcC_reg, seqK_nrm, nrmK_app, initE, vcR_nil, vcR_n, isCall, makes, newOf, opR, evS, evV, evX, evParts, evPartsS, fillV, Go.Bx.get, Go.Bx.own?, cellsV, isCell, cut, dropV, takeV, putV, St.stp, Ef.stp, lgs, setE, applyU, setO, newN, Option.getD_some, List.all_cons, List.all_nil, List.length_cons, List.length_nil, List.mem_cons, List.not_mem_nil, Bool.and_self, Bool.false_eq_true, ↓reduceIte, true_and, and_self, or_false, not_false_eq_true, eq_self, Nat.reduceAdd, Nat.reduceLeDiff, Nat.reduceEqDiff, Nat.zero_add, Nat.le_refl, decide_true]
  repeat' first
      | (first
          | refine TR.p hP (by first | exact s9 cv0 | exact s11 cv0 600 0 (by decide) (by decide) | exact s11 cv0 2000 900 (by decide) (by decide)) (by repeat' first | exact trivial | (intro _; assumption) | apply And.intro) ?_
          | refine TR.gp hP rfl (fun _ => by first | exact s9 cv0 | exact s11 cv0 600 0 (by decide) (by decide) | exact s11 cv0 2000 900 (by decide) (by decide)) (fun _ => by repeat' first | exact trivial | (intro _; assumption) | apply And.intro) ?_
          | refine TR.pv hP rfl (by first | exact s9 cv0 | exact s11 cv0 600 0 (by decide) (by decide) | exact s11 cv0 2000 900 (by decide) (by decide)) trivial (by repeat' first | exact trivial | (intro _; assumption) | apply And.intro) ?_
         try simp only [vcC_ret, seqK_nrm, nrmK_app, vcR_nil, vcR_n, vcR_s, isCall, makes, hasU, newOf, opR, binI, pickV, evS, evV, evX, gOf, Go.Bx.get, Go.Bx.own?, cut, dropV, takeV, St.stp, Ef.stp, lgs, setE, applyU, newN, Option.getD_some, List.length_cons, List.length_nil, List.mem_cons, List.not_mem_nil, Bool.true_and, Bool.false_eq_true, Bool.cond_false_right, ↓reduceIte, true_and, and_true, and_self, or_false, not_false_eq_true, forall_const, implies_true, imp_self, eq_self, Nat.reduceAdd, Nat.reduceEqDiff, Nat.zero_add, Nat.le_refl, Nat.succ_ne_self])
      | refine And.intro (fun h => ?_) (fun h => ?_)
      | refine And.intro (by first | omega | (simp only [maxLen, decide_eq_true_eq, decide_eq_false_iff_not] at *; omega)) ?_
      | refine And.intro rfl ?_
      | fail
  exact RetK.pure (by simp only [rs8, ressS, resS, and_self]) (by (simp only [rs8, retV, resV, Go.Bx.get, ↓reduceIte, eq_self, VLe_bool, Go.Bx.get, ↓reduceIte, eq_self]) <;> (first | decide +kernel))
theorem s3 (k : Cv) (loss used : Int) (h1 : I64 k.li) (h2 : I64 k.ag) (h3 : k.sh ≤ 9223372036854775807) (h4 : loss ≤ 9223372036854775807) (h5 : used ≤ 9223372036854775807) : Ctr Try.prog 3 [vC k, .d (.int .i64 loss), .d (.int .i64 used)] [] (.d (.bool true)) [] [] := by
  refine pure3 (by simp) rfl rfl ?_
  intro c hP hfn
  simp only [c3, vC, cC, vcC_seq, vcC_reg, seqK_nrm, nrmK_app, initE, vcR_nil, vcR_n, isCall, makes, newOf, opR, evS, evV, evX, Go.Bx.get, cellsV, isCell, St.stp, Ef.stp, lgs, setE, applyU, setO, newN, Option.getD_some, List.all_cons, List.all_nil, List.not_mem_nil, Bool.and_self, Bool.false_eq_true, ↓reduceIte, true_and, and_self, not_false_eq_true, eq_self, Nat.reduceAdd, Nat.zero_add]
  repeat' first
      | (first
          | refine TR.p hP (by first | exact s8 | exact s9 k | exact s10 k h1 h2 | exact s11 k loss used h1.2 h3 | exact s12 k loss used h1 h2 h4 h5) (by repeat' first | exact trivial | (intro _; assumption) | apply And.intro) ?_
          | refine TR.gp hP rfl (fun _ => by first | exact s8 | exact s9 k | exact s10 k h1 h2 | exact s11 k loss used h1.2 h3 | exact s12 k loss used h1 h2 h4 h5) (fun _ => by repeat' first | exact trivial | (intro _; assumption) | apply And.intro) ?_
          | refine TR.pv hP rfl (by first | exact s8 | exact s9 k | exact s10 k h1 h2 | exact s11 k loss used h1.2 h3 | exact s12 k loss used h1 h2 h4 h5) trivial (by repeat' first | exact trivial | (intro _; assumption) | apply And.intro) ?_
         try simp only [vcC_seq, vcC_drw, vcC_ret, seqK_nrm, nrmK_app, drwK_app, vcR_nil, vcR_n, vcR_s, isCall, makes, hasU, newOf, opR, binI, pickV, evS, evV, evX, gOf, Go.Bx.get, Go.Bx.own?, cut, dropV, takeV, St.stp, Ef.stp, Stp.lg, lgs, setE, applyU, newN, Option.getD_some, List.map_nil, List.append_nil, List.nil_append, List.cons_append, List.length_cons, List.length_nil, List.mem_cons, List.not_mem_nil, Bool.and_self, Bool.false_eq_true, cond_true, reduceCtorEq, ↓reduceIte, true_and, and_self, or_false, not_false_eq_true, forall_const, implies_true, eq_self, Nat.reduceAdd, Nat.reduceEqDiff, Nat.zero_add, Nat.le_refl, Nat.succ_ne_self, Nat.zero_ne_one, beq_self_eq_true])
      | refine And.intro (fun h => ?_) (fun h => ?_)
      | refine And.intro (by first | omega | (simp only [maxLen, decide_eq_true_eq, decide_eq_false_iff_not] at *; omega)) ?_
      | refine And.intro rfl ?_
      | fail
  exact RetK.pure (by simp only [rs3, ressS, resS, and_self]) (by (simp only [rs3, retV, resV, Go.Bx.get, ↓reduceIte, eq_self, VLe_refl, Go.Bx.get, ↓reduceIte, eq_self]) <;> (first | simp))
theorem s4 (k : Cv) (loss used : Int) (h1 : I64 k.li) (h2 : I64 k.ag) (h3 : k.sh ≤ 9223372036854775807) (h4 : loss ≤ 9223372036854775807) (h5 : used ≤ 9223372036854775807) : Ctr Try.prog 4 [vC k, .d (.int .i64 loss), .d (.int .i64 used)] [] (.d (.bool true)) [] [] := by
  have L : (!(rightC k) || decide (loss < 0) || decide (used < 0)) = false →
      (decide (paysC k loss used < 0) || decide (paysC k loss used > k.li) || decide (paysC k loss used > loss) || decide (paysC k loss used > 0) && decide (loss ≤ k.de)) = false ∧
      (decide (paysC k loss used > 0) && decide (paysC k loss used > IntKind.i64.wrap (k.ag - used))) = false ∧
      (k.sh < 10000 ∨ used > 0 ∨ paysC k loss used = max 0 (min (IntKind.i64.wrap (loss - k.de)) k.li)) := by
    intro h
    have hq : rightC k = true ∧ 0 ≤ loss ∧ 0 ≤ used := by
      simp only [Bool.or_eq_false_iff, Bool.not_eq_false', decide_eq_false_iff_not] at h; exact ⟨h.1.1, by omega, by omega⟩
    have hf := (right_iff h1 h2).1 hq.1
    have ha := amt_le hf loss
    have hfull : k.sh = 10000 → (amtH k loss : Int) = max 0 (min (loss - k.de) k.li) := fun e => by
      unfold amtH; rw [e]; show ((heN _ 10000 : Nat) : Int) = _; rw [he_full]; omega
    rw [pays_eq hq.1 hf hq.2.1 h4 hq.2.2 h5]
    obtain ⟨a, b, c, d, e⟩ := hf
    rw [wI (a := k.ag - used) (by omega), wI (a := loss - k.de) (by omega)]
    simp only [Bool.or_eq_false_iff, Bool.and_eq_false_iff, decide_eq_false_iff_not]
    by_cases hs : k.sh = 10000
    · have := hfull hs; omega
    · omega
  refine pure4 (by simp) rfl rfl ?_
  intro c hP hfn
  simp only [c4, vC, cC, vcC_seq, vcC_reg, seqK_nrm, nrmK_app, initE, vcR_nil, vcR_n, isCall, makes, newOf, opR, evS, evV, evX, Go.Bx.get, cellsV, isCell, St.stp, Ef.stp, lgs, setE, applyU, setO, newN, Option.getD_some, List.all_cons, List.all_nil, List.not_mem_nil, Bool.and_self, Bool.false_eq_true, ↓reduceIte, true_and, and_self, not_false_eq_true, eq_self, Nat.reduceAdd, Nat.zero_add]
  repeat' first
      | (first
          | refine TR.p hP (by first | exact s8 | exact s9 k | exact s11 k loss used h1.2 h3) (by repeat' first | exact trivial | (intro _; assumption) | apply And.intro) ?_
          | refine TR.gp hP rfl (fun _ => by first | exact s8 | exact s9 k | exact s11 k loss used h1.2 h3) (fun _ => by repeat' first | exact trivial | (intro _; assumption) | apply And.intro) ?_
          | refine TR.pv hP rfl (by first | exact s8 | exact s9 k | exact s11 k loss used h1.2 h3) trivial (by repeat' first | exact trivial | (intro _; assumption) | apply And.intro) ?_
         try simp only [vcC_seq, vcC_reg, vcC_skip, vcC_cond, vcC_ret, seqK_nrm, seqK_ret, nrmK_app, vcR_nil, vcR_n, vcR_s, isCall, makes, hasU, newOf, opR, binI, pickV, evS, evV, evX, gOf, Go.Bx.get, Go.Bx.own?, cut, nth, dropV, takeV, St.stp, Ef.stp, lgs, setE, applyU, newN, Option.getD_some, List.length_cons, List.length_nil, List.mem_cons, List.not_mem_nil, Bool.true_and, Bool.and_self, Bool.false_eq_true, Bool.cond_true_left, Bool.cond_false_right, cond_true, reduceCtorEq, ↓reduceIte, true_and, and_true, and_self, or_false, not_false_eq_true, forall_const, implies_true, imp_self, eq_self, Nat.reduceAdd, Nat.reduceLeDiff, Nat.reduceEqDiff, Nat.zero_add, Nat.le_refl, Nat.succ_ne_self, Nat.zero_ne_one])
      | refine And.intro (fun h => ?_) (fun h => ?_)
      | refine And.intro (by first | omega | (simp only [maxLen, decide_eq_true_eq, decide_eq_false_iff_not] at *; omega)) ?_
      | refine And.intro rfl ?_
      | fail
  · exact RetK.pure (by simp only [rs4, ressS, resS, and_self]) (by (simp only [rs4, retV, resV, Go.Bx.get, ↓reduceIte, eq_self, VLe_bool, Go.Bx.get, ↓reduceIte, eq_self]) <;> (first | (rw [paysC, if_pos h]; rfl)))
  · rw [(L (by assumption)).1] at h; cases h
  · rw [(L (by assumption)).2.1] at h; cases h
  · have := (L (by assumption)).2.2
    exact RetK.pure (by simp only [rs4, ressS, resS, and_self]) (by (simp only [rs4, retV, resV, Go.Bx.get, ↓reduceIte, eq_self, VLe_bool, Go.Bx.get, ↓reduceIte, eq_self]) <;> (first | (simp only [Bool.or_eq_true, decide_eq_true_eq, beq_iff_eq]; omega)))
theorem s5 (k : Cv) (loss more used also : Int) (h1 : I64 k.li) (h2 : I64 k.ag) (h3 : k.sh ≤ 9223372036854775807) : Ctr Try.prog 5 [vC k, .d (.int .i64 loss), .d (.int .i64 more), .d (.int .i64 used), .d (.int .i64 also)] [] (.d (.bool true)) [] [] := by
  have L : rightC k = true → 0 ≤ loss → 0 ≤ more → 0 ≤ used → 0 ≤ also → loss ≤ 4000000000000000000 → more ≤ 4000000000000000000 → used ≤ 4000000000000000000 → also ≤ 4000000000000000000 →
      0 ≤ paysC k loss used ∧ paysC k loss used ≤ 1000000000000000 ∧ paysC k loss used ≤ paysC k (loss + more) used ∧ paysC k (loss + more) used - paysC k loss used ≤ more ∧ paysC k loss (used + also) ≤ paysC k loss used ∧ paysC k loss used - paysC k loss (used + also) ≤ also ∧ paysC k (loss + more) used ≤ 1000000000000000 ∧ 0 ≤ paysC k loss (used + also) := by
    intro g1 g2 g3 g4 g5 g6 g7 g8 g9
    have hf := (right_iff h1 h2).1 g1
    have ha := amt_mono (x := loss) hf g3
    have hb := amt_le hf loss
    have hc := amt_le hf (loss + more)
    rw [pays_eq g1 hf g2 (by omega) g4 (by omega), pays_eq g1 hf (loss := loss + more) (by omega) (by omega) g4 (by omega), pays_eq g1 hf g2 (by omega) (used := used + also) (by omega) (by omega)]
    obtain ⟨a, b, c, d, e⟩ := hf
    omega
  refine pure5 (by simp) rfl rfl ?_
  intro c hP hfn
  simp only [c5, vC, cC, vcC_seq, vcC_reg, seqK_nrm, nrmK_app, initE, vcR_nil, vcR_n, isCall, makes, newOf, opR, evS, evV, evX, Go.Bx.get, cellsV, isCell, St.stp, Ef.stp, lgs, setE, applyU, setO, newN, Option.getD_some, List.all_cons, List.all_nil, List.not_mem_nil, Bool.and_self, Bool.false_eq_true, ↓reduceIte, true_and, and_self, not_false_eq_true, eq_self, Nat.reduceAdd, Nat.zero_add]
  repeat' first
      | (first
          | refine TR.p hP (by first | exact s8 | exact s9 k) (by repeat' first | exact trivial | (intro _; assumption) | apply And.intro) ?_
          | refine TR.gp hP rfl (fun _ => by first | exact s8 | exact s9 k) (fun _ => by repeat' first | exact trivial | (intro _; assumption) | apply And.intro) ?_
          | refine TR.pv hP rfl (by first | exact s8 | exact s9 k) trivial (by repeat' first | exact trivial | (intro _; assumption) | apply And.intro) ?_
         try simp only [vcC_seq, vcC_reg, vcC_skip, vcC_cond, vcC_ret, seqK_nrm, seqK_ret, nrmK_app, vcR_nil, vcR_n, vcR_s, isCall, makes, hasU, newOf, opR, binI, pickV, evS, evV, evX, gOf, Go.Bx.get, Go.Bx.own?, cut, dropV, takeV, St.stp, Ef.stp, lgs, setE, applyU, newN, Option.getD_some, List.length_cons, List.length_nil, List.mem_cons, List.not_mem_nil, Bool.true_and, Bool.false_eq_true, Bool.cond_true_left, reduceCtorEq, ↓reduceIte, true_and, and_true, and_self, or_false, not_false_eq_true, forall_const, implies_true, imp_self, eq_self, Nat.reduceAdd, Nat.reduceEqDiff, Nat.zero_add, Nat.le_refl, Nat.succ_ne_self, Nat.zero_ne_one])
      | refine And.intro (fun h => ?_) (fun h => ?_)
      | refine And.intro (by first | omega | (simp only [maxLen, decide_eq_true_eq, decide_eq_false_iff_not] at *; omega)) ?_
      | refine And.intro rfl ?_
      | fail
  · exact RetK.pure (by simp only [rs5, ressS, resS, and_self]) (by (simp only [rs5, retV, resV, Go.Bx.get, ↓reduceIte, eq_self, VLe_refl, Go.Bx.get, ↓reduceIte, eq_self]) <;> (first | simp))
  · simp only [Bool.or_eq_false_iff, Bool.not_eq_false', decide_eq_false_iff_not] at h
    have L := L h.1.1.1.1.1.1.1.1 (by omega) (by omega) (by omega) (by omega) (by omega) (by omega) (by omega) (by omega)
    have e1 : IntKind.i64.wrap (loss + more) = loss + more := wI (by omega)
    have e2 : IntKind.i64.wrap (used + also) = used + also := wI (by omega)
    have e3 : IntKind.i64.wrap (paysC k (loss + more) used - paysC k loss used) = paysC k (loss + more) used - paysC k loss used := wI (by omega)
    have e4 : IntKind.i64.wrap (paysC k loss used - paysC k loss (used + also)) = paysC k loss used - paysC k loss (used + also) := wI (by omega)
    repeat' first
        | (first
            | refine TR.p hP (by first | exact s11 k loss used h1.2 h3 | exact s11 k (loss + more) used h1.2 h3 | exact s11 k loss (used + also) h1.2 h3) (by repeat' first | exact trivial | (intro _; assumption) | apply And.intro) ?_
            | refine TR.gp hP rfl (fun _ => by first | exact s11 k loss used h1.2 h3 | exact s11 k (loss + more) used h1.2 h3 | exact s11 k loss (used + also) h1.2 h3) (fun _ => by repeat' first | exact trivial | (intro _; assumption) | apply And.intro) ?_
            | refine TR.pv hP rfl (by first | exact s11 k loss used h1.2 h3 | exact s11 k (loss + more) used h1.2 h3 | exact s11 k loss (used + also) h1.2 h3) trivial (by repeat' first | exact trivial | (intro _; assumption) | apply And.intro) ?_
           try simp only [e1, e2, e3, e4, vcC_seq, vcC_reg, vcC_ret, seqK_nrm, nrmK_app, vcR_nil, vcR_n, vcR_s, isCall, makes, hasU, newOf, opR, binI, pickV, evS, evV, evX, gOf, Go.Bx.get, Go.Bx.own?, cut, dropV, takeV, St.stp, Ef.stp, lgs, setE, applyU, newN, Option.getD_some, List.length_cons, List.length_nil, List.mem_cons, List.not_mem_nil, Bool.true_and, Bool.and_self, Bool.false_eq_true, Bool.cond_false_right, cond_true, reduceCtorEq, ↓reduceIte, true_and, and_true, and_self, or_false, not_false_eq_true, forall_const, implies_true, imp_self, eq_self, Nat.reduceAdd, Nat.reduceEqDiff, Nat.zero_add, Nat.le_refl, Nat.succ_ne_self, Nat.zero_ne_one])
        | refine And.intro (fun h => ?_) (fun h => ?_)
        | refine And.intro (by first | omega | (simp only [maxLen, decide_eq_true_eq, decide_eq_false_iff_not] at *; omega)) ?_
        | refine And.intro rfl ?_
        | fail
    all_goals exact RetK.pure (by simp only [rs5, ressS, resS, and_self]) (by (simp only [rs5, retV, resV, Go.Bx.get, ↓reduceIte, eq_self, VLe_bool, Go.Bx.get, ↓reduceIte, eq_self]) <;> (first | (simp only [Bool.and_eq_true, decide_eq_true_eq]; omega)))

/-! Losses, one behind the other. -/
def lossH (k : Cv) (x : Int) : Int := if x < 0 then 0 else (amtH k x : Int)
theorem lossH_nonneg (k : Cv) (x : Int) : 0 ≤ lossH k x := by unfold lossH; split <;> omega
theorem pays_H {k : Cv} (hr : rightC k = true) (hf : Fine k) {x p : Int} (hx : x ≤ 9223372036854775807) (hp : 0 ≤ p) (hpa : p ≤ k.ag) : paysC k x p = min (lossH k x) (k.ag - p) := by
  have hag := hf.ag
  unfold lossH
  by_cases h : x < 0
  · rw [if_pos h, paysC, if_pos (by simp [h])]; omega
  · rw [if_neg h, pays_eq hr hf (by omega) hx hp (by omega)]; omega
def paidR (k : Cv) : Int → List Int → Int
  | p, [] => p
  | p, x :: r => paidR k (IntKind.i64.wrap (p + paysC k x p)) r
def eachR (k : Cv) : Int → List Int → Int
  | e, [] => e
  | e, x :: r => eachR k (IntKind.i64.wrap (e + paysC k x 0)) r
def okL (l : List Int) : Prop := ∀ x, x ∈ l → x ≤ 9223372036854775807
theorem paid_eq {k : Cv} (hr : rightC k = true) (hf : Fine k) : ∀ (l : List Int) (p : Int), okL l → 0 ≤ p → p ≤ k.ag → paidR k p l = min (p + (l.map (lossH k)).sum) k.ag ∧ 0 ≤ (l.map (lossH k)).sum
  | [], p, _, h0, h1 => by simp [paidR]; omega
  | x :: r, p, hl, h0, h1 => by
    have hag := hf.ag
    have hn := lossH_nonneg k x
    have hx := pays_H hr hf (hl x (by simp)) h0 h1
    have ih := paid_eq hr hf r (p + min (lossH k x) (k.ag - p)) (fun y hy => hl y (by simp [hy])) (by omega) (by omega)
    rw [paidR, hx, wI (by omega), ih.1, List.map_cons, List.sum_cons]
    have := ih.2
    omega
theorem each_eq {k : Cv} (hr : rightC k = true) (hf : Fine k) : ∀ (l : List Int) (e : Int), okL l → 0 ≤ e → e + 1000000000000000 * l.length ≤ 9000000000000000000 → e ≤ eachR k e l ∧ min (eachR k e l - e) k.ag = min (l.map (lossH k)).sum k.ag
  | [], e, _, h0, h1 => by simp [eachR]
  | x :: r, e, hl, h0, h1 => by
    have hag := hf.ag
    have hli := hf.li
    have hde := hf.de
    have hn := lossH_nonneg k x
    have hx := pays_H hr hf (hl x (by simp)) (p := 0) (by omega) (by omega)
    simp only [List.length_cons] at h1
    have ih := each_eq hr hf r (e + min (lossH k x) (k.ag - 0)) (fun y hy => hl y (by simp [hy])) (by omega) (by omega)
    have hs := (paid_eq hr hf r 0 (fun y hy => hl y (by simp [hy])) (by omega) (by omega)).2
    rw [eachR, hx, wI (by omega), List.map_cons, List.sum_cons]
    omega
theorem sumH_rev (k : Cv) (l : List Int) : (l.reverse.map (lossH k)).sum = (l.map (lossH k)).sum := by
  rw [List.map_reverse]
  induction l.map (lossH k) with
  | nil => rfl
  | cons p r ih => simp [ih]; omega
theorem s6 (k : Cv) (l : List Int) (h1 : I64 k.li) (h2 : I64 k.ag) (h3 : k.sh ≤ 9223372036854775807) (hl : l.length ≤ 9223372036854775807) (hx : okL l) : Ctr Try.prog 6 [vC k, .d (slK .i64 l)] [] (.d (.bool true)) [] [] := by
  refine pure6 (by simp) rfl rfl ?_
  intro c hP hfn
  simp only [c6, vC, cC, vcC_seq, vcC_reg, seqK_nrm, nrmK_app, initE, vcR_nil, vcR_n, isCall, makes, slK, newOf, opR, evS, evV, evX, Go.Bx.get, cellsV, isCell, St.stp, Ef.stp, lgs, setE, applyU, setO, newN, Option.getD_some, List.all_cons, List.all_nil, List.not_mem_nil, Bool.and_self, Bool.false_eq_true, ↓reduceIte, true_and, and_self, not_false_eq_true, eq_self, Nat.zero_add]
  repeat' first
      | (first
          | refine TR.p hP (by first | exact s8 | exact s9 k) (by repeat' first | exact trivial | (intro _; assumption) | apply And.intro) ?_
          | refine TR.gp hP rfl (fun _ => by first | exact s8 | exact s9 k) (fun _ => by repeat' first | exact trivial | (intro _; assumption) | apply And.intro) ?_
          | refine TR.pv hP rfl (by first | exact s8 | exact s9 k) trivial (by repeat' first | exact trivial | (intro _; assumption) | apply And.intro) ?_
         try simp only [vcC_seq, vcC_reg, vcC_skip, vcC_cond, vcC_block, vcC_ret, seqK_nrm, seqK_ret, nrmK_app, vcR_nil, vcR_n, vcR_s, isCall, makes, hasU, newOf, opR, binI, pickV, evS, evV, evX, gOf, Go.Bx.get, Go.Bx.own?, cut, dropV, takeV, St.stp, Ef.stp, lgs, setE, applyU, newN, Option.getD_some, List.length_cons, List.length_nil, List.mem_cons, List.not_mem_nil, Bool.true_and, Bool.false_eq_true, Bool.cond_true_left, ↓reduceIte, true_and, and_true, and_self, or_false, not_false_eq_true, forall_const, implies_true, imp_self, eq_self, Nat.reduceAdd, Nat.reduceEqDiff, Nat.zero_add, Nat.le_refl, Nat.succ_ne_self, Nat.zero_ne_one])
      | refine And.intro (fun h => ?_) (fun h => ?_)
      | refine And.intro (by first | omega | (simp only [maxLen, decide_eq_true_eq, decide_eq_false_iff_not] at *; omega)) ?_
      | refine And.intro rfl ?_
      | fail
  · exact RetK.pure (by simp only [rs6, ressS, resS, and_self]) (by (simp only [rs6, retV, resV, Go.Bx.get, ↓reduceIte, eq_self, VLe_refl, Go.Bx.get, ↓reduceIte, eq_self]) <;> (first | simp))
  have hq : rightC k = true ∧ l.length ≤ 100 := by
    simp only [Bool.or_eq_false_iff, Bool.not_eq_false', decide_eq_false_iff_not] at h; exact ⟨h.1, by omega⟩
  clear h
  have hf := (right_iff h1 h2).1 hq.1
  have hag := hf.ag
  have hli := hf.li
  have hde := hf.de
  have hP0 := paid_eq hq.1 hf l 0 hx (by omega) (by omega)
  have hE0 := each_eq hq.1 hf l 0 hx (by omega) (by omega)
  have hR0 := paid_eq hq.1 hf l.reverse 0 (fun x h => hx x (by simpa using h)) (by omega) (by omega)
  rw [sumH_rev] at hR0
  refine vcC.loop (X := Nat × Int × Int) (fun x => ⟨[(1, .d (slK .i64 l)), (2, .own 2 0), (5, .d (.bool true)), (6, .d (.int .i64 x.2.1)), (7, .d (.int .i64 x.2.2)), (8, .d (.int .i64 x.1))], [(2, .fix (cC k))], [2]⟩)
    (fun x => x.1 ≤ l.length ∧ (0 ≤ x.2.1 ∧ x.2.1 ≤ k.ag) ∧ paidR k 0 l = paidR k x.2.1 (l.drop x.1) ∧ eachR k 0 l = eachR k x.2.2 (l.drop x.1)) (fun x => l.length - x.1) (0, 0, 0) ⟨Nat.zero_le _, ⟨by simp only; omega, by simp only; omega⟩, rfl, rfl⟩ (Wk.of [] hfn rfl (by (simp only [EnvLe, VLe_refl, slK, Go.Bx.get, ↓reduceIte, and_self, eq_self, Nat.reduceEqDiff, Nat.succ_ne_self, Nat.zero_ne_one, Int.cast_ofNat_Int]) <;> (first | exact wS (by omega) | (rw [List.length_append]; exact wS (by omega)) | assumption)) (by simp only [cC, OwnLe, OLe_refl, exists_eq_left', Option.some.injEq, Go.Bx.own?, ↓reduceIte, and_self, eq_self])) ?_
  rintro ⟨i, p, e⟩ ⟨hk, hp, hep, hee⟩
  simp only at hk hp hep hee
  simp only [cC, vcC_seq, vcC_reg, vcC_drw, vcC_skip, vcC_cond, vcC_block, vcC_exit, seqK_nrm, seqK_exit, blkK_exit, lopK_exit, nrmK_app, vcR_nil, vcR_n, isCall, makes, slK, newOf, opR, binI, evS, evV, evX, Go.Bx.get, Go.Bx.own?, cut, cutD, nthD, dropV, takeV, St.stp, Ef.stp, Stp.lg, lgs, setE, applyU, newN, List.map_nil, List.append_nil, List.nil_append, List.cons_append, List.length_cons, List.length_nil, Bool.false_eq_true, ↓reduceIte, true_and, and_true, and_self, eq_self, Nat.reduceAdd, Nat.reduceEqDiff, Nat.zero_add, Nat.le_refl, Nat.succ_ne_self, Int.toNat_natCast]
  refine ⟨fun h3' => ?_, fun h3' => ?_⟩
  · have hlt : i < l.length := by have := of_decide_eq_true h3'; omega
    obtain ⟨x, hd, hg, hm, -⟩ := drop_at hlt
    have hpx := pays_H hq.1 hf (hx x hm) hp.1 hp.2
    have hn := lossH_nonneg k x
    rw [hd, paidR] at hep
    rw [hd, eachR] at hee
    have hw : IntKind.i64.wrap (p + paysC k x p) = p + paysC k x p := wI (by omega)
    rw [hw] at hep
    simp only [hg]
    repeat' first
        | (first
            | refine TR.p hP (by first | exact s11 k x p h1.2 h3 | exact s11 k x 0 h1.2 h3) (by repeat' first | exact trivial | (intro _; assumption) | apply And.intro) ?_
            | refine TR.gp hP rfl (fun _ => by first | exact s11 k x p h1.2 h3 | exact s11 k x 0 h1.2 h3) (fun _ => by repeat' first | exact trivial | (intro _; assumption) | apply And.intro) ?_
            | refine TR.pv hP rfl (by first | exact s11 k x p h1.2 h3 | exact s11 k x 0 h1.2 h3) trivial (by repeat' first | exact trivial | (intro _; assumption) | apply And.intro) ?_
           try simp only [hg, hw, vcC_seq, vcC_reg, vcC_drw, vcC_skip, vcC_cond, vcC_ret, seqK_nrm, seqK_ret, blkK_nrm, blkK_ret, lopK_ret, nrmK_app, drwK_app, vcR_nil, vcR_n, vcR_s, isCall, makes, hasU, newOf, opR, binI, pickV, evS, evV, evX, gOf, Go.Bx.get, Go.Bx.own?, cut, cutD, nth, nthD, dropV, takeV, St.stp, Ef.stp, Stp.lg, lgs, setE, applyU, newN, Option.getD_some, List.map_nil, List.append_nil, List.nil_append, List.cons_append, List.length_cons, List.length_nil, List.mem_cons, List.not_mem_nil, Bool.true_and, Bool.false_eq_true, Bool.cond_true_left, Bool.cond_false_right, ↓reduceIte, true_and, and_true, and_self, or_false, not_false_eq_true, forall_const, implies_true, imp_self, eq_self, Nat.reduceAdd, Nat.reduceLeDiff, Nat.reduceEqDiff, Nat.zero_add, Nat.le_refl, Nat.succ_ne_self, Int.toNat_natCast])
        | refine And.intro (fun h => ?_) (fun h => ?_)
        | refine And.intro (by first | omega | (simp only [decide_eq_true_eq] at *; omega)) ?_
        | refine And.intro rfl ?_
        | fail
    · exfalso
      simp only [Bool.or_eq_true, Bool.and_eq_true, decide_eq_true_eq, beq_iff_eq, bne_iff_ne] at h
      omega
    · exact lopK.on (i + 1, p + paysC k x p, IntKind.i64.wrap (e + paysC k x 0)) ⟨hlt, ⟨by simp only; omega, by simp only; omega⟩, hep, hee⟩ (by simp only; omega) (Wk.of [] hfn rfl (by (simp only [EnvLe, VLe_refl, VLe_int, Go.Bx.get, ↓reduceIte, true_and, and_true, eq_self, Nat.reduceEqDiff, Nat.succ_ne_self]) <;> (first | exact wS (by omega) | (rw [List.length_append]; exact wS (by omega)) | assumption)) (by simp only [OwnLe, OLe_refl, exists_eq_left', Option.some.injEq, Go.Bx.own?, ↓reduceIte, and_self, eq_self]))
  have hkl : i = l.length := by have := of_decide_eq_false h3'; omega
  rw [hkl, List.drop_length] at hep hee
  rw [paidR] at hep
  rw [eachR] at hee
  have hpd : p = min (l.map (lossH k)).sum k.ag := by omega
  refine vcC.loop (X := Nat × Int) (fun x => ⟨[(1, .d (slK .i64 l)), (2, .own 2 0), (5, .d (.bool true)), (6, .d (.int .i64 p)), (7, .d (.int .i64 e)), (10, .d (.int .i64 x.2)), (11, .d (.int .i64 ((x.1 : Int) - 1)))], [(2, .fix (cC k))], [2]⟩)
    (fun x => x.1 ≤ l.length ∧ (0 ≤ x.2 ∧ x.2 ≤ k.ag) ∧ paidR k 0 l.reverse = paidR k x.2 (l.take x.1).reverse) (fun x => x.1) (l.length, 0) ⟨Nat.le_refl _, ⟨by simp only; omega, by simp only; omega⟩, by simp⟩ (Wk.of [] hfn rfl (by simp only [EnvLe, VLe_refl, VLe_int, slK, Go.Bx.get, ↓reduceIte, true_and, and_true, eq_self, Nat.reduceEqDiff, Nat.succ_ne_self]; exact wI (by omega)) (by simp only [cC, OwnLe, OLe_refl, exists_eq_left', Option.some.injEq, Go.Bx.own?, ↓reduceIte, and_self, eq_self])) ?_
  rintro ⟨i, b⟩ ⟨hk, hb, hbe⟩
  simp only at hk hb hbe
  simp only [cC, vcC_seq, vcC_reg, vcC_drw, vcC_skip, vcC_cond, vcC_block, vcC_exit, vcC_ret, seqK_nrm, seqK_exit, blkK_exit, lopK_exit, nrmK_app, vcR_nil, vcR_n, vcR_s, isCall, makes, hasU, slK, newOf, opR, binI, pickV, evS, evV, evX, gOf, Go.Bx.get, Go.Bx.own?, cut, cutD, nth, nthD, dropV, takeV, St.stp, Ef.stp, Stp.lg, lgs, setE, applyU, newN, Option.getD_some, List.map_nil, List.append_nil, List.nil_append, List.cons_append, List.length_cons, List.length_nil, List.mem_cons, List.not_mem_nil, Bool.true_and, Bool.and_self, Bool.false_eq_true, Bool.cond_false_right, cond_true, ↓reduceIte, true_and, and_true, and_self, or_false, not_false_eq_true, forall_const, implies_true, imp_self, eq_self, Nat.reduceAdd, Nat.reduceLeDiff, Nat.reduceEqDiff, Nat.zero_add, Nat.le_refl, Nat.succ_ne_self]
  refine ⟨fun h4' => ?_, fun h4' => ?_⟩
  · have hi : 0 < i := by have := of_decide_eq_true h4'; omega
    obtain ⟨j, rfl⟩ : ∃ j, i = j + 1 := ⟨i - 1, by omega⟩
    have ej : (((j + 1 : Nat) : Int) - 1) = (j : Int) := by omega
    have ej2 : IntKind.i64.wrap ((j : Int) - 1) = (j : Int) - 1 := wI (by omega)
    obtain ⟨x, hd, hg, hm, hat⟩ := drop_at (show j < l.length by omega)
    rw [List.take_add_one, hat, Option.toList_some, List.reverse_append, List.reverse_singleton, List.singleton_append, paidR] at hbe
    have hpx := pays_H hq.1 hf (hx x hm) hb.1 hb.2
    have hn := lossH_nonneg k x
    have hw : IntKind.i64.wrap (b + paysC k x b) = b + paysC k x b := wI (by omega)
    rw [hw] at hbe
    simp only [ej, hg, Int.toNat_natCast]
    repeat' first
        | (first
            | refine TR.p hP (by first | exact s11 k x b h1.2 h3) (by repeat' first | exact trivial | (intro _; assumption) | apply And.intro) ?_
            | refine TR.gp hP rfl (fun _ => by first | exact s11 k x b h1.2 h3) (fun _ => by repeat' first | exact trivial | (intro _; assumption) | apply And.intro) ?_
            | refine TR.pv hP rfl (by first | exact s11 k x b h1.2 h3) trivial (by repeat' first | exact trivial | (intro _; assumption) | apply And.intro) ?_
           try simp only [hw, ej2, vcC_reg, seqK_nrm, blkK_nrm, nrmK_app, drwK_app, vcR_nil, vcR_n, isCall, makes, newOf, opR, binI, evS, evV, evX, Go.Bx.get, St.stp, Ef.stp, Stp.lg, lgs, setE, applyU, newN, List.map_nil, List.append_nil, List.nil_append, List.cons_append, Bool.false_eq_true, ↓reduceIte, true_and, and_self, eq_self, Nat.reduceEqDiff, Nat.succ_ne_self])
        | refine And.intro (fun h => ?_) (fun h => ?_)
        | refine And.intro (by first | omega | (simp only [decide_eq_true_eq, decide_eq_false_iff_not] at *; omega)) ?_
        | refine And.intro rfl ?_
        | fail
    exact lopK.on (j, b + paysC k x b) ⟨by simp only; omega, ⟨by simp only; omega, by simp only; omega⟩, hbe⟩ (by simp only; omega) (Wk.of [] hfn rfl (by (simp only [EnvLe, VLe_refl, Go.Bx.get, ↓reduceIte, and_self, eq_self, Nat.reduceEqDiff, Nat.succ_ne_self]) <;> (first | exact wS (by omega) | (rw [List.length_append]; exact wS (by omega)) | assumption)) (by simp only [OwnLe, OLe_refl, exists_eq_left', Option.some.injEq, Go.Bx.own?, ↓reduceIte, and_self, eq_self]))
  · have hi : i = 0 := by have := of_decide_eq_false h4'; omega
    subst hi
    rw [List.take_zero, List.reverse_nil, paidR] at hbe
    repeat' first
        | (first
            | refine TR.p hP (by first | fail) (by repeat' first | exact trivial | (intro _; assumption) | apply And.intro) ?_
            | refine TR.gp hP rfl (fun _ => by first | fail) (fun _ => by repeat' first | exact trivial | (intro _; assumption) | apply And.intro) ?_
            | refine TR.pv hP rfl (by first | fail) trivial (by repeat' first | exact trivial | (intro _; assumption) | apply And.intro) ?_
           try simp only [↓evSo_some, vcC_seq, vcC_reg, vcC_drw, vcC_skip, vcC_cond, vcC_block, vcC_exit, vcC_ret, vcC_bad, seqK_nrm, seqK_exit, seqK_ret, blkK_nrm, blkK_exit, blkK_ret, lopK_exit, lopK_ret, lopX_exit, lopX_ret, nrmK_app, drwK_app, initE, vcR_nil, vcR_n, vcR_s, isCall, makes, hasU, slK, newOf, opR, binI, pickV, evS, evV, evX, evSs, evVs, evParts, evPartsS, fillV, catV, gOf, Go.Bx.get, Go.Bx.own?, cellsV, isCell, cut, cutD, nth, nthD, dropV, takeV, dropD, takeDV, putV, toDs, St.stp, Ef.stp, Stp.lg, lgs, setE, applyU, setO, delO, newN, keysO, callU, Ef.bad, Option.getD_some, Option.getD_none, Option.map_some, Option.map_none, List.all_cons, List.all_nil, List.map_cons, List.map_nil, List.append_nil, List.nil_append, List.cons_append, List.length_cons, List.length_nil, List.mem_cons, List.not_mem_nil, Bool.and_true, Bool.true_and, Bool.and_self, Bool.not_true, Bool.not_false, Bool.or_self, Bool.or_false, Bool.false_or, Bool.false_eq_true, Bool.true_eq_false, Bool.cond_true_left, Bool.cond_false_right, cond_true, cond_false, reduceCtorEq, ↓reduceIte, if_true, if_false, true_and, and_true, and_self, false_and, and_false, or_false, false_or, not_false_eq_true, not_true_eq_false, forall_const, true_implies, false_implies, implies_true, imp_self, eq_self, ne_eq, Nat.reduceAdd, Nat.reduceSub, Nat.reduceMul, Nat.reduceLeDiff, Nat.reduceEqDiff, Nat.zero_add, Nat.add_zero, Nat.le_refl, Nat.succ_ne_self, Nat.one_ne_zero, Nat.zero_ne_one, Int.toNat_natCast, litRow, List.drop_succ_cons, List.drop_zero, List.take_succ_cons, List.take_zero, pubE, pubV, pubL, pubO, eqS, eqB, Nat.reduceLT, Nat.not_lt_zero, Nat.sub_zero, decide_true, decide_false, true_or, or_true, Int.le_refl, Int.cast_ofNat_Int, Int.reduceToNat, Int.reduceLT, Int.reduceLE, beq_self_eq_true, Nat.mul_one, Nat.one_mul, Nat.zero_mul])
        | refine And.intro (fun h => ?_) (fun h => ?_)
        | refine And.intro (by first | omega | (simp only [maxLen, decide_eq_true_eq, decide_eq_false_iff_not] at *; omega)) ?_
        | refine And.intro rfl ?_
        | fail
    exact RetK.pure (by simp only [rs6, ressS, resS, and_self, Int.cast_ofNat_Int]) (by (simp only [rs6, retV, resV, Go.Bx.get, ↓reduceIte, eq_self, VLe_bool, Go.Bx.get, ↓reduceIte, eq_self]) <;> (first | (simp only [Bool.and_eq_true, decide_eq_true_eq, beq_iff_eq]; omega)))

/-! Limits, one above the other. -/
def cvL (d l : Int) : Cv := ⟨0, l, 1000000000000000, d, 10000⟩
theorem cvL_right {d l : Int} (h0 : 0 ≤ d) (h1 : d < l) (h2 : l ≤ 1000000000000000) : rightC (cvL d l) = true :=
  (right_iff (k := cvL d l) ⟨by show -9223372036854775808 ≤ l; omega, by show l ≤ 9223372036854775807; omega⟩ ⟨by show (-9223372036854775808 : Int) ≤ 1000000000000000; omega, by show (1000000000000000 : Int) ≤ 9223372036854775807; omega⟩).2
    ⟨⟨by show (0 : Int) ≤ 0; omega, by show (0 : Int) < 8; omega⟩, ⟨by show (1 : Int) ≤ 10000; omega, by show (10000 : Int) ≤ 10000; omega⟩, ⟨h0, h1⟩, h2, by show (1000000000000000 : Int) ≤ 1000000000000000; omega⟩
theorem cvL_pays {d l x : Int} (h0 : 0 ≤ d) (h1 : d < l) (h2 : l ≤ 1000000000000000) (hx : 0 ≤ x) (hx2 : x ≤ 20000000000) : paysC (cvL d l) x 0 = max 0 (min (x - d) l) := by
  have hr := cvL_right h0 h1 h2
  have hf := (right_iff (k := cvL d l) ⟨by show -9223372036854775808 ≤ l; omega, by show l ≤ 9223372036854775807; omega⟩ ⟨by show (-9223372036854775808 : Int) ≤ 1000000000000000; omega, by show (1000000000000000 : Int) ≤ 9223372036854775807; omega⟩).1 hr
  rw [pays_eq hr hf hx (by omega) (by omega) (by omega)]
  have e : (amtH (cvL d l) x : Int) = max 0 (min (x - d) l) := by
    show ((heN (max 0 (min (x - d) l)).toNat 10000 : Nat) : Int) = _
    rw [he_full]; omega
  rw [e]
  show max 0 (min (max 0 (min (x - d) l)) (1000000000000000 - 0)) = _
  omega
theorem s9L {d l : Int} (h0 : 0 ≤ d) (h1 : d < l) (h2 : l ≤ 1000000000000000) : Ctr Try.prog 9 [vC (cvL d l)] [] (.d (.bool true)) [] [] := by
  have h := s9 (cvL d l)
  rw [cvL_right h0 h1 h2] at h
  exact h
theorem s11L {d l x : Int} (h0 : 0 ≤ d) (h1 : d < l) (h2 : l ≤ 1000000000000000) (hx : 0 ≤ x) (hx2 : x ≤ 20000000000) : Ctr Try.prog 11 [vC (cvL d l), .d (.int .i64 x), .d (.int .i64 0)] [] (.d (.int .i64 (max 0 (min (x - d) l)))) [] [] := by
  have g1 : (cvL d l).li ≤ 9223372036854775807 := Int.le_trans (show l ≤ 1000000000000000 from h2) (by decide)
  have g2 : (cvL d l).sh ≤ 9223372036854775807 := show (10000 : Int) ≤ 9223372036854775807 by decide
  have h := s11 (cvL d l) x 0 g1 g2
  rw [cvL_pays h0 h1 h2 hx hx2] at h
  exact h
theorem lay_b {x d l : Int} (h1 : 0 ≤ d) (h7 : x < 20000000000) : 0 ≤ max 0 (min (x - d) l) ∧ max 0 (min (x - d) l) ≤ 20000000000 := by omega
theorem lay_in {u v : Int} (h1 : 0 ≤ u ∧ u ≤ 20000000000) (h2 : 0 ≤ v ∧ v ≤ 20000000000) : IntKind.i64.wrap (u + v) = u + v := wI (by omega)
theorem lay_fin {de b d x : Int} (h1 : 0 ≤ de) (h3 : 0 < b) (h5 : 0 < d) :
    ((max 0 (min (x - (de + de + b)) (de + de + b + d)) == max 0 (min (x - de - de - b) (de + de + b + d))) &&
      (decide (max 0 (min (x - de) (de + b)) < de + b) || (max 0 (min (x - de) (de + b)) + max 0 (min (x - (de + de + b)) (de + de + b + d)) == min (max 0 (min (x - de) (de + de + b + de + b + d))) (de + b + de + de + b + d)))) = true := by
  simp only [Bool.and_eq_true, Bool.or_eq_true, decide_eq_true_eq, beq_iff_eq]
  exact ⟨by omega, by omega⟩
structure LayW (de b d x : Int) : Prop where
  w0 : IntKind.i64.wrap (b) = b
  w1 : IntKind.i64.wrap (d) = d
  w2 : IntKind.i64.wrap (x) = x
  w3 : IntKind.i64.wrap (de + b) = de + b
  w4 : IntKind.i64.wrap (de + de) = de + de
  w5 : IntKind.i64.wrap (de + de + b) = de + de + b
  w6 : IntKind.i64.wrap (de + de + b + d) = de + de + b + d
  w7 : IntKind.i64.wrap (de + de + b + de) = de + de + b + de
  w8 : IntKind.i64.wrap (de + de + b + de + b) = de + de + b + de + b
  w9 : IntKind.i64.wrap (de + de + b + de + b + d) = de + de + b + de + b + d
  w10 : IntKind.i64.wrap (x - de) = x - de
  w11 : IntKind.i64.wrap (x - de - de) = x - de - de
  w12 : IntKind.i64.wrap (x - de - de - b) = x - de - de - b
  w13 : IntKind.i64.wrap (de + b + de) = de + b + de
  w14 : IntKind.i64.wrap (de + b + de + de) = de + b + de + de
  w15 : IntKind.i64.wrap (de + b + de + de + b) = de + b + de + de + b
  w16 : IntKind.i64.wrap (de + b + de + de + b + d) = de + b + de + de + b + d
theorem lay_w {de b d x : Int} (h1 : 0 ≤ de) (h2 : de ≤ 4294967295) (h3 : 0 < b) (h4 : b ≤ 4294967296) (h5 : 0 < d) (h5' : d ≤ 4294967296) (h6 : 0 ≤ x) (h7 : x < 20000000000) : LayW de b d x :=
  ⟨wI (by omega), wI (by omega), wI (by omega), wI (by omega), wI (by omega), wI (by omega), wI (by omega), wI (by omega), wI (by omega), wI (by omega), wI (by omega), wI (by omega), wI (by omega), wI (by omega), wI (by omega), wI (by omega), wI (by omega)⟩
structure LayC (de b d x : Int) : Prop where
  rA : Ctr Try.prog 9 [vC (cvL de (de + b))] [] (.d (.bool true)) [] []
  rB : Ctr Try.prog 9 [vC (cvL (de + de + b) (de + de + b + d))] [] (.d (.bool true)) [] []
  rC : Ctr Try.prog 9 [vC (cvL de (de + de + b + de + b + d))] [] (.d (.bool true)) [] []
  pA : Ctr Try.prog 11 [vC (cvL de (de + b)), .d (.int .i64 x), .d (.int .i64 0)] [] (.d (.int .i64 (max 0 (min (x - de) (de + b))))) [] []
  pB : Ctr Try.prog 11 [vC (cvL (de + de + b) (de + de + b + d)), .d (.int .i64 x), .d (.int .i64 0)] [] (.d (.int .i64 (max 0 (min (x - (de + de + b)) (de + de + b + d))))) [] []
  pC : Ctr Try.prog 11 [vC (cvL de (de + de + b + de + b + d)), .d (.int .i64 x), .d (.int .i64 0)] [] (.d (.int .i64 (max 0 (min (x - de) (de + de + b + de + b + d))))) [] []
  e21 : IntKind.i64.wrap (max 0 (min (x - de) (de + b)) + max 0 (min (x - (de + de + b)) (de + de + b + d))) = max 0 (min (x - de) (de + b)) + max 0 (min (x - (de + de + b)) (de + de + b + d))
theorem lay_c {de b d x : Int} (h1 : 0 ≤ de) (h2 : de ≤ 4294967295) (h3 : 0 < b) (h4 : b ≤ 4294967296) (h5 : 0 < d) (h5' : d ≤ 4294967296) (h6 : 0 ≤ x) (h7 : x < 20000000000) : LayC de b d x :=
  ⟨s9L (by omega) (by omega) (by omega), s9L (by omega) (by omega) (by omega), s9L (by omega) (by omega) (by omega), s11L (by omega) (by omega) (by omega) (by omega) (by omega), s11L (by omega) (by omega) (by omega) (by omega) (by omega), s11L (by omega) (by omega) (by omega) (by omega) (by omega),
   lay_in (lay_b h1 h7) (lay_b (by omega) h7)⟩
theorem wN (n : Int) (h : 0 ≤ n) (h2 : n ≤ 4294967295) : IntKind.i64.wrap n = n ∧ 0 < 1 + n ∧ 1 + n ≤ 4294967296 := ⟨wI (by omega), by omega, by omega⟩
set_option maxHeartbeats 2000000 in
theorem s7 (de lo hi ls : Int) (h1 : 0 ≤ de ∧ de ≤ 4294967295) (h2 : 0 ≤ lo ∧ lo ≤ 4294967295) (h3 : 0 ≤ hi ∧ hi ≤ 4294967295) (h4 : 0 ≤ ls) :
    Ctr Try.prog 7 [.d (.int .u32 de), .d (.int .u32 lo), .d (.int .u32 hi), .d (.int .u64 ls)] [] (.d (.bool true)) [] [] := by
  obtain ⟨x, hx⟩ : ∃ x, ls.tmod 20000000000 = x := ⟨_, rfl⟩
  have t1 : 0 ≤ x := hx ▸ Int.tmod_nonneg 20000000000 h4
  have t2 : x < 20000000000 := hx ▸ Int.tmod_lt_of_pos ls (by decide)
  have e1 := (wN de h1.1 h1.2).1
  have e2 := (wN lo h2.1 h2.2)
  have e3 := (wN hi h3.1 h3.2)
  obtain ⟨b, hb⟩ : ∃ b, 1 + lo = b := ⟨_, rfl⟩
  obtain ⟨d, hd⟩ : ∃ d, 1 + hi = d := ⟨_, rfl⟩
  rw [hb] at e2
  rw [hd] at e3
  have w := lay_w h1.1 h1.2 e2.2.1 e2.2.2 e3.2.1 e3.2.2 t1 t2
  have q := lay_c h1.1 h1.2 e2.2.1 e2.2.2 e3.2.1 e3.2.2 t1 t2
  refine pure7 (by simp) rfl rfl ?_
  intro c hP hfn
  simp only [c7, vcC_seq, vcC_reg, seqK_nrm, nrmK_app, initE, vcR_nil, vcR_n, isCall, makes, newOf, opR, evS, evV, evX, St.stp, Ef.stp, lgs, setE, applyU, newN, Bool.false_eq_true, ↓reduceIte, true_and, eq_self, Nat.reduceAdd, Nat.zero_add]
  repeat' first
      | (first
          | refine TR.p hP (by first | exact s8 | exact q.rA | exact q.rB | exact q.rC | exact q.pA | exact q.pB | exact q.pC) (by repeat' first | exact trivial | (intro _; assumption) | apply And.intro) ?_
          | refine TR.gp hP rfl (fun _ => by first | exact s8 | exact q.rA | exact q.rB | exact q.rC | exact q.pA | exact q.pB | exact q.pC) (fun _ => by repeat' first | exact trivial | (intro _; assumption) | apply And.intro) ?_
          | refine TR.pv hP rfl (by first | exact s8 | exact q.rA | exact q.rB | exact q.rC | exact q.pA | exact q.pB | exact q.pC) trivial (by repeat' first | exact trivial | (intro _; assumption) | apply And.intro) ?_
         try simp only [e1, e2.1, e3.1, hb, hd, hx, w.w0, w.w1, w.w2, w.w3, w.w4, w.w5, w.w6, w.w7, w.w8, w.w9, w.w10, w.w11, w.w12, w.w13, w.w14, w.w15, w.w16, q.e21, vcC_seq, vcC_reg, vcC_skip, vcC_cond, vcC_ret, seqK_nrm, seqK_ret, nrmK_app, vcR_nil, vcR_n, vcR_s, isCall, makes, hasU, newOf, opR, binI, pickV, evS, evV, evX, evParts, evPartsS, fillV, gOf, Go.Bx.get, Go.Bx.own?, cellsV, isCell, cut, dropV, takeV, putV, St.stp, Ef.stp, lgs, setE, applyU, setO, newN, Option.getD_some, List.all_cons, List.all_nil, List.length_cons, List.length_nil, List.mem_cons, List.not_mem_nil, Bool.true_and, Bool.and_self, Bool.not_true, Bool.not_false, Bool.false_eq_true, Bool.cond_true_left, Bool.cond_false_right, cond_true, cond_false, reduceCtorEq, ↓reduceIte, true_and, and_true, and_self, or_false, not_false_eq_true, forall_const, false_implies, implies_true, imp_self, eq_self, ne_eq, Nat.reduceAdd, Nat.reduceLeDiff, Nat.reduceEqDiff, Nat.zero_add, Nat.le_refl, Nat.succ_ne_self, Nat.zero_ne_one, decide_true, beq_self_eq_true])
      | refine And.intro (fun h => ?_) (fun h => ?_)
      | refine And.intro (by first | omega | (simp only [maxLen, decide_eq_true_eq, decide_eq_false_iff_not] at *; omega)) ?_
      | refine And.intro rfl ?_
      | fail
  all_goals exact RetK.pure (by simp only [rs7, ressS, resS, and_self]) (by (simp only [rs7, retV, resV, Go.Bx.get, ↓reduceIte, eq_self, VLe_bool, Go.Bx.get, ↓reduceIte, eq_self]) <;> (first | exact lay_fin h1.1 e2.2.1 e3.2.1))
end Go.Proofs.Ytldfjldgbeeofaa
