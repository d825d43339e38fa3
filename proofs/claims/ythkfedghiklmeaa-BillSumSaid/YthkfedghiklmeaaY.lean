import Derived.Test.YthkfedghiklmeaaN0
namespace Go.Proofs.Ythkfedghiklmeaa
open Go.Bx
set_option maxRecDepth 10000

/-! Days of the calendar, in plain numbers. -/
def leapN (y : Nat) : Bool := decide (y % 4 = 0 ∧ (y % 100 ≠ 0 ∨ y % 400 = 0))
def ylen (y : Nat) : Nat := if leapN y = true then 366 else 365
def feb (y : Nat) : Nat := if leapN y = true then 29 else 28
def mlen (y m : Nat) : Nat := if m = 2 then feb y else if m = 4 ∨ m = 6 ∨ m = 9 ∨ m = 11 then 30 else 31
def ahN (y : Nat) : Nat := (y - 1601) * 365 + (y - 1601) / 4 - (y - 1601) / 100 + (y - 1601) / 400
theorem leapN_iff {y : Nat} : leapN y = true ↔ (y % 4 = 0 ∧ (y % 100 ≠ 0 ∨ y % 400 = 0)) := by simp only [leapN, decide_eq_true_eq]
theorem ylen_or (y : Nat) : (leapN y = true ∧ ylen y = 366 ∧ feb y = 29) ∨ (¬ leapN y = true ∧ ylen y = 365 ∧ feb y = 28) := by
  unfold ylen feb
  by_cases h : leapN y = true
  · left; simp [h]
  · right; simp [h]
theorem ah_succ {y : Nat} (h : 1601 ≤ y) : ahN (y + 1) = ahN y + ylen y := by
  have hl := @leapN_iff y
  have ho := ylen_or y
  obtain ⟨n, rfl⟩ : ∃ n, y = 1601 + n := ⟨y - 1601, by omega⟩
  unfold ahN
  rw [show 1601 + n + 1 - 1601 = n + 1 by omega, show 1601 + n - 1601 = n by omega]
  have a1 : (n + 1) / 4 = n / 4 + (if n % 4 = 3 then 1 else 0) := by split <;> omega
  have a2 : (n + 1) / 100 = n / 100 + (if n % 100 = 99 then 1 else 0) := by split <;> omega
  have a3 : (n + 1) / 400 = n / 400 + (if n % 400 = 399 then 1 else 0) := by split <;> omega
  have b1 : (1601 + n) % 4 = 0 ↔ n % 4 = 3 := by omega
  have b2 : (1601 + n) % 100 = 0 ↔ n % 100 = 99 := by omega
  have b3 : (1601 + n) % 400 = 0 ↔ n % 400 = 399 := by omega
  have b4 : n % 100 = 99 → n % 4 = 3 := by omega
  have b5 : n % 400 = 399 → n % 100 = 99 := by omega
  have b6 : n / 100 ≤ n / 4 := Nat.div_le_div_left (by omega) (by omega)
  rw [a1, a2, a3]
  rw [ne_eq, b1, b2, b3] at hl
  clear a1 a2 a3 b1 b2 b3
  generalize n / 4 = q4 at *
  generalize n / 100 = q1 at *
  generalize n / 400 = q0 at *
  by_cases c1 : n % 4 = 3
  · by_cases c2 : n % 100 = 99
    · by_cases c3 : n % 400 = 399
      · rw [if_pos c1, if_pos c2, if_pos c3]
        have := hl.2 ⟨c1, .inr c3⟩
        rcases ho with ⟨h1, h2, -⟩ | ⟨h1, h2, -⟩
        · omega
        · exact absurd this h1
      · rw [if_pos c1, if_pos c2, if_neg c3]
        rcases ho with ⟨h1, h2, -⟩ | ⟨h1, h2, -⟩
        · rcases (hl.1 h1).2 with g | g
          · exact absurd c2 g
          · exact absurd g c3
        · omega
    · have c3 : ¬ n % 400 = 399 := fun h => c2 (b5 h)
      rw [if_pos c1, if_neg c2, if_neg c3]
      have := hl.2 ⟨c1, .inl c2⟩
      rcases ho with ⟨h1, h2, -⟩ | ⟨h1, h2, -⟩
      · omega
      · exact absurd this h1
  · have c2 : ¬ n % 100 = 99 := fun h => c1 (b4 h)
    have c3 : ¬ n % 400 = 399 := fun h => c2 (b5 h)
    rw [if_neg c1, if_neg c2, if_neg c3]
    rcases ho with ⟨h1, h2, -⟩ | ⟨h1, h2, -⟩
    · exact absurd (hl.1 h1).1 c1
    · omega
def msum (y : Nat) : Nat → Nat
  | 0 => 0
  | m + 1 => msum y m + mlen y (m + 1)
theorem msum12 (y : Nat) : msum y 12 = ylen y := by
  have ho := ylen_or y
  simp only [msum, mlen]
  rcases ho with ⟨h1, h2, h3⟩ | ⟨h1, h2, h3⟩ <;> simp [h2, h3]
theorem mlen_le (y m : Nat) : 28 ≤ mlen y m ∧ mlen y m ≤ 31 := by
  have ho := ylen_or y
  unfold mlen
  split
  · omega
  · split <;> omega
theorem msum_le (y : Nat) {a b : Nat} (h : a ≤ b) : msum y a ≤ msum y b := by
  induction b with
  | zero => have : a = 0 := by omega
            subst this; exact Nat.le_refl _
  | succ b ih =>
    by_cases e : a = b + 1
    · subst e; exact Nat.le_refl _
    · have := ih (by omega); simp only [msum]; omega
def yN (n : Nat) : Nat := if n ≤ ahN (1601 + (n - 1) / 365) then 1600 + (n - 1) / 365 else 1601 + (n - 1) / 365
theorem ah_at (q : Nat) : ahN (1601 + q) = q * 365 + q / 4 - q / 100 + q / 400 := by
  unfold ahN; rw [show 1601 + q - 1601 = q by omega]
theorem yN_spec {n : Nat} (h1 : 1 ≤ n) (h2 : n ≤ 292194) : 1601 ≤ yN n ∧ yN n ≤ 2400 ∧ ahN (yN n) < n ∧ n ≤ ahN (yN n + 1) := by
  unfold yN
  have hq : (n - 1) / 365 ≤ 800 := by omega
  have hn : 365 * ((n - 1) / 365) + 1 ≤ n ∧ n ≤ 365 * ((n - 1) / 365) + 365 := by omega
  generalize (n - 1) / 365 = q at *
  have e1 := ah_at q
  have e2 := ah_at (q + 1)
  rw [show 1601 + (q + 1) = 1601 + q + 1 by omega] at e2
  split
  · rename_i h
    rw [e1] at h
    obtain ⟨p, rfl⟩ : ∃ p, q = p + 1 := ⟨q - 1, by omega⟩
    have e3 := ah_at p
    rw [show 1600 + (p + 1) = 1601 + p by omega, e3, show 1601 + p + 1 = 1601 + (p + 1) by omega, e1]
    omega
  · rename_i h
    rw [e1] at h
    rw [e1, e2]
    have : (q + 1) / 100 ≤ (q + 1) / 4 := Nat.div_le_div_left (by omega) (by omega)
    have : q / 100 ≤ q / 4 := Nat.div_le_div_left (by omega) (by omega)
    omega
theorem ah_mono {a b : Nat} (ha : 1601 ≤ a) (h : a ≤ b) : ahN a ≤ ahN b := by
  induction b with
  | zero => omega
  | succ b ih =>
    by_cases e : a = b + 1
    · subst e; exact Nat.le_refl _
    · have := ih (by omega); rw [ah_succ (by omega)]; omega
theorem yN_unique {n y : Nat} (h1 : 1 ≤ n) (h2 : n ≤ 292194) (hy : 1601 ≤ y) (h3 : ahN y < n) (h4 : n ≤ ahN (y + 1)) : y = yN n := by
  obtain ⟨a, b, c, d⟩ := yN_spec h1 h2
  rcases Nat.lt_trichotomy y (yN n) with h | h | h
  · have := ah_mono (a := y + 1) (b := yN n) (by omega) h; omega
  · exact h
  · have := ah_mono (a := yN n + 1) (b := y) (by omega) h; omega
/-- The month, and what is left for its days. -/
def mgo (y : Nat) : Nat → Nat → Nat → Nat × Nat
  | 0, m, r => (m, r)
  | k + 1, m, r => if r ≤ mlen y m then (m, r) else mgo y k (m + 1) (r - mlen y m)
theorem mgo_spec {y : Nat} : ∀ {k m r : Nat}, m + k = 13 → 1 ≤ m → 1 ≤ r → r + msum y (m - 1) ≤ msum y 12 →
    m ≤ (mgo y k m r).1 ∧ (mgo y k m r).1 ≤ 12 ∧ 1 ≤ (mgo y k m r).2 ∧ (mgo y k m r).2 ≤ mlen y (mgo y k m r).1 ∧ msum y ((mgo y k m r).1 - 1) + (mgo y k m r).2 = msum y (m - 1) + r
  | 0, m, r, h1, h2, h3, h4 => by
    rw [show m - 1 = 12 by omega] at h4; omega
  | k + 1, m, r, h1, h2, h3, h4 => by
    rw [mgo]
    by_cases h : r ≤ mlen y m
    · rw [if_pos h]; exact ⟨Nat.le_refl _, by simp only; omega, h3, h, rfl⟩
    · rw [if_neg h]
      obtain ⟨p, rfl⟩ : ∃ p, m = p + 1 := ⟨m - 1, by omega⟩
      have e : msum y (p + 1) = msum y p + mlen y (p + 1) := rfl
      have ih := mgo_spec (y := y) (k := k) (m := p + 1 + 1) (r := r - mlen y (p + 1)) (by omega) (by omega) (by omega) (by rw [show p + 1 + 1 - 1 = p + 1 by omega, e]; rw [show p + 1 - 1 = p by omega] at h4; omega)
      rw [show p + 1 + 1 - 1 = p + 1 by omega, e] at ih
      rw [show p + 1 - 1 = p by omega]
      omega
def ofN (n : Nat) : Nat × Nat × Nat := (yN n, mgo (yN n) 12 1 (n - ahN (yN n)))
def numN (y m d : Nat) : Nat := ahN y + msum y (m - 1) + d
theorem ofN_spec {n : Nat} (h1 : 1 ≤ n) (h2 : n ≤ 292194) : 1601 ≤ (ofN n).1 ∧ (ofN n).1 ≤ 2400 ∧ 1 ≤ (ofN n).2.1 ∧ (ofN n).2.1 ≤ 12 ∧ 1 ≤ (ofN n).2.2 ∧ (ofN n).2.2 ≤ mlen (ofN n).1 (ofN n).2.1 ∧ numN (ofN n).1 (ofN n).2.1 (ofN n).2.2 = n := by
  obtain ⟨a, b, c, d⟩ := yN_spec h1 h2
  rw [ah_succ a] at d
  have hm := msum12 (yN n)
  obtain ⟨p, q, r, s, t⟩ := mgo_spec (y := yN n) (k := 12) (m := 1) (r := n - ahN (yN n)) rfl (by omega) (by omega) (by simp only [Nat.sub_self, msum]; simp only [msum] at hm; omega)
  simp only [Nat.sub_self, show msum (yN n) 0 = 0 from rfl] at t
  refine ⟨a, b, p, q, r, s, ?_⟩
  unfold numN ofN
  simp only
  omega
/-- Shifted by months. -/
def shiftT (n b : Nat) : Nat := ((ofN n).1 - 1601) * 12 + ((ofN n).2.1 - 1) + b
def shiftV (n b : Nat) : Nat := numN (1601 + shiftT n b / 12) (shiftT n b % 12 + 1) (min (ofN n).2.2 (mlen (1601 + shiftT n b / 12) (shiftT n b % 12 + 1)))
def shiftN (n : Int) (b : Nat) : Int × Int :=
  if n < 1 ∨ 292194 < n then (0, 3) else if 9600 ≤ shiftT n.toNat b then (0, 3) else (((shiftV n.toNat b : Nat) : Int), 0)
theorem numN_bounds {y m d : Nat} (hy : 1601 ≤ y) (hy2 : y ≤ 2400) (hm : 1 ≤ m) (hm2 : m ≤ 12) (hd : 1 ≤ d) (hd2 : d ≤ mlen y m) : 1 ≤ numN y m d ∧ numN y m d ≤ 292194 ∧ numN y m d ≤ ahN y + msum y m := by
  obtain ⟨p, rfl⟩ : ∃ p, m = p + 1 := ⟨m - 1, by omega⟩
  have e : msum y (p + 1) = msum y p + mlen y (p + 1) := rfl
  have h1 := msum_le y hm2
  rw [msum12] at h1
  have h2 := ah_succ hy
  have h3 := ah_mono (a := y + 1) (b := 2401) (by omega) (by omega)
  have h4 : ahN 2401 = 292194 := by decide +kernel
  unfold numN
  rw [show p + 1 - 1 = p by omega]
  omega

/-! The functions. -/
theorem modN (a : Nat) (b : Nat) : ((a : Int).tmod (b : Int)) = ((a % b : Nat) : Int) := tmod_nat a b
theorem leap_eq (y : Nat) : (((y : Int).tmod 4 == 0) && (((y : Int).tmod 100 != 0) || ((y : Int).tmod 400 == 0))) = leapN y := by
  have e1 : (y : Int).tmod 4 = ((y % 4 : Nat) : Int) := tmod_nat y 4
  have e2 : (y : Int).tmod 100 = ((y % 100 : Nat) : Int) := tmod_nat y 100
  have e3 : (y : Int).tmod 400 = ((y % 400 : Nat) : Int) := tmod_nat y 400
  rw [e1, e2, e3, Bool.eq_iff_iff, leapN_iff]
  simp only [Bool.and_eq_true, Bool.or_eq_true, beq_iff_eq, bne_iff_ne, ne_eq]
  omega
theorem sLeap (y : Nat) : Ctr Try.prog 46 [.d (.int .i64 (y : Int))] [] (.d (.bool (leapN y))) [] [] := by
  have e := leap_eq y
  refine pure46 (by simp) rfl rfl ?_; intro c hP hfn; simp only [c46, vcC_seq, vcC_reg, vcC_ret, seqK_nrm, nrmK_app, initE, vcR_nil, vcR_n, vcR_s, isCall, makes, hasU, newOf, opR, binI, pickV, evS, evV, evX, gOf, Go.Bx.get, St.stp, Ef.stp, lgs, setE, applyU, newN, Option.getD_some, List.not_mem_nil, Bool.true_and, Bool.false_eq_true, Bool.cond_true_left, Bool.cond_false_right, reduceCtorEq, ↓reduceIte, true_and, and_true, and_self, not_false_eq_true, forall_const, implies_true, imp_self, eq_self, ne_eq, Nat.reduceEqDiff, Nat.succ_ne_self]
  repeat' first
      | (first
          | refine TR.p hP (by first | fail) (by repeat' first | exact trivial | (intro _; assumption) | apply And.intro) ?_
          | refine TR.gp hP rfl (fun _ => by first | fail) (fun _ => by repeat' first | exact trivial | (intro _; assumption) | apply And.intro) ?_
          | refine TR.pv hP rfl (by first | fail) trivial (by repeat' first | exact trivial | (intro _; assumption) | apply And.intro) ?_
         try simp only [↓evSo_some, vcC_seq, vcC_reg, vcC_drw, vcC_skip, vcC_cond, vcC_block, vcC_exit, vcC_ret, vcC_bad, seqK_nrm, seqK_exit, seqK_ret, blkK_nrm, blkK_exit, blkK_ret, lopK_exit, lopK_ret, lopX_exit, lopX_ret, jmpK_nrm, jmpK_exit, jmpK_ret, nrmK_app, drwK_app, initE, vcR_nil, vcR_n, vcR_s, isCall, makes, hasU, slK, newOf, opR, binI, pickV, evS, evV, evX, evSs, evVs, evParts, evPartsS, fillV, catV, gOf, Go.Bx.get, Go.Bx.own?, cellsV, isCell, cut, cutD, nth, nthD, dropV, takeV, dropD, takeDV, putV, toDs, St.stp, Ef.stp, Stp.lg, lgs, setE, applyU, setO, delO, newN, keysO, callU, Ef.bad, Option.getD_some, Option.getD_none, Option.map_some, Option.map_none, List.all_cons, List.all_nil, List.map_cons, List.map_nil, List.append_nil, List.nil_append, List.cons_append, List.length_cons, List.length_nil, List.mem_cons, List.not_mem_nil, Bool.and_true, Bool.true_and, Bool.and_self, Bool.not_true, Bool.not_false, Bool.or_self, Bool.or_false, Bool.false_or, Bool.false_eq_true, Bool.true_eq_false, Bool.cond_true_left, Bool.cond_false_right, cond_true, cond_false, reduceCtorEq, ↓reduceIte, if_true, if_false, true_and, and_true, and_self, false_and, and_false, or_false, false_or, not_false_eq_true, not_true_eq_false, forall_const, true_implies, false_implies, implies_true, imp_self, eq_self, ne_eq, Nat.reduceAdd, Nat.reduceSub, Nat.reduceMul, Nat.reduceMod, Nat.reduceLeDiff, Nat.reduceEqDiff, Nat.zero_add, Nat.add_zero, Nat.le_refl, Nat.succ_ne_self, Nat.one_ne_zero, Nat.zero_ne_one, Int.toNat_natCast, litRow, List.drop_succ_cons, List.drop_zero, List.take_succ_cons, List.take_zero, pubE, pubV, pubL, pubO, pubFE, pubFV, pubFL, pubFO, delO, eqS, eqB, Nat.reduceLT, Nat.not_lt_zero, Nat.sub_zero, decide_true, decide_false, true_or, or_true, Int.le_refl, Int.cast_ofNat_Int, Int.reduceToNat, Int.reduceLT, Int.reduceLE, beq_self_eq_true, Nat.mul_one, Nat.one_mul, Nat.zero_mul])
      | refine And.intro (fun h => ?_) (fun h => ?_)
      | refine And.intro (by first | omega | (simp only [maxLen, decide_eq_true_eq, decide_eq_false_iff_not] at *; omega)) ?_
      | (refine TR.aslO rfl rfl rfl rfl trivial (Nat.le_of_ble_eq_true rfl) ?_
         try simp only [↓evSo_some, vcC_seq, vcC_reg, vcC_drw, vcC_skip, vcC_cond, vcC_block, vcC_exit, vcC_ret, vcC_bad, seqK_nrm, seqK_exit, seqK_ret, blkK_nrm, blkK_exit, blkK_ret, lopK_exit, lopK_ret, lopX_exit, lopX_ret, jmpK_nrm, jmpK_exit, jmpK_ret, nrmK_app, drwK_app, initE, vcR_nil, vcR_n, vcR_s, isCall, makes, hasU, slK, newOf, opR, binI, pickV, evS, evV, evX, evSs, evVs, evParts, evPartsS, fillV, catV, gOf, Go.Bx.get, Go.Bx.own?, cellsV, isCell, cut, cutD, nth, nthD, dropV, takeV, dropD, takeDV, putV, toDs, St.stp, Ef.stp, Stp.lg, lgs, setE, applyU, setO, delO, newN, keysO, callU, Ef.bad, Option.getD_some, Option.getD_none, Option.map_some, Option.map_none, List.all_cons, List.all_nil, List.map_cons, List.map_nil, List.append_nil, List.nil_append, List.cons_append, List.length_cons, List.length_nil, List.mem_cons, List.not_mem_nil, Bool.and_true, Bool.true_and, Bool.and_self, Bool.not_true, Bool.not_false, Bool.or_self, Bool.or_false, Bool.false_or, Bool.false_eq_true, Bool.true_eq_false, Bool.cond_true_left, Bool.cond_false_right, cond_true, cond_false, reduceCtorEq, ↓reduceIte, if_true, if_false, true_and, and_true, and_self, false_and, and_false, or_false, false_or, not_false_eq_true, not_true_eq_false, forall_const, true_implies, false_implies, implies_true, imp_self, eq_self, ne_eq, Nat.reduceAdd, Nat.reduceSub, Nat.reduceMul, Nat.reduceMod, Nat.reduceLeDiff, Nat.reduceEqDiff, Nat.zero_add, Nat.add_zero, Nat.le_refl, Nat.succ_ne_self, Nat.one_ne_zero, Nat.zero_ne_one, Int.toNat_natCast, litRow, List.drop_succ_cons, List.drop_zero, List.take_succ_cons, List.take_zero, pubE, pubV, pubL, pubO, pubFE, pubFV, pubFL, pubFO, delO, eqS, eqB, Nat.reduceLT, Nat.not_lt_zero, Nat.sub_zero, decide_true, decide_false, true_or, or_true, Int.le_refl, Int.cast_ofNat_Int, Int.reduceToNat, Int.reduceLT, Int.reduceLE, beq_self_eq_true, Nat.mul_one, Nat.one_mul, Nat.zero_mul])
      | refine And.intro trivial ?_
      | refine And.intro rfl ?_
      | fail
  exact RetK.pure (by simp only [rs46, ressS, resS, and_self]) (by (simp only [rs46, retV, resV, Go.Bx.get, ↓reduceIte, eq_self, VLe_bool, Go.Bx.get, ↓reduceIte, eq_self]) <;> (first | exact e))
theorem rLeap (y : Nat) : Ctr Try.prog 53 [.d (.int .i64 (y : Int))] [] (.d (.bool (leapN y))) [] [] := by
  have e1 : (y : Int).tmod 4 = ((y % 4 : Nat) : Int) := tmod_nat y 4
  have e2 : (y : Int).tmod 100 = ((y % 100 : Nat) : Int) := tmod_nat y 100
  have e3 : (y : Int).tmod 400 = ((y % 400 : Nat) : Int) := tmod_nat y 400
  have hl := @leapN_iff y
  refine pure53 (by simp) rfl rfl ?_; intro c hP hfn; simp only [c53, e1, e2, e3, vcC_seq, vcC_reg, vcC_skip, vcC_cond, vcC_ret, seqK_nrm, seqK_ret, nrmK_app, initE, vcR_nil, vcR_n, vcR_s, isCall, makes, hasU, newOf, opR, binI, pickV, evS, evV, evX, gOf, Go.Bx.get, St.stp, Ef.stp, lgs, setE, applyU, newN, Option.getD_some, List.not_mem_nil, Bool.true_and, Bool.false_eq_true, Bool.cond_false_right, reduceCtorEq, ↓reduceIte, true_and, and_true, and_self, not_false_eq_true, forall_const, implies_true, imp_self, eq_self, ne_eq, Nat.reduceEqDiff, Nat.succ_ne_self]
  repeat' first
      | (first
          | refine TR.p hP (by first | fail) (by repeat' first | exact trivial | (intro _; assumption) | apply And.intro) ?_
          | refine TR.gp hP rfl (fun _ => by first | fail) (fun _ => by repeat' first | exact trivial | (intro _; assumption) | apply And.intro) ?_
          | refine TR.pv hP rfl (by first | fail) trivial (by repeat' first | exact trivial | (intro _; assumption) | apply And.intro) ?_
         try simp only [↓evSo_some, vcC_seq, vcC_reg, vcC_drw, vcC_skip, vcC_cond, vcC_block, vcC_exit, vcC_ret, vcC_bad, seqK_nrm, seqK_exit, seqK_ret, blkK_nrm, blkK_exit, blkK_ret, lopK_exit, lopK_ret, lopX_exit, lopX_ret, jmpK_nrm, jmpK_exit, jmpK_ret, nrmK_app, drwK_app, initE, vcR_nil, vcR_n, vcR_s, isCall, makes, hasU, slK, newOf, opR, binI, pickV, evS, evV, evX, evSs, evVs, evParts, evPartsS, fillV, catV, gOf, Go.Bx.get, Go.Bx.own?, cellsV, isCell, cut, cutD, nth, nthD, dropV, takeV, dropD, takeDV, putV, toDs, St.stp, Ef.stp, Stp.lg, lgs, setE, applyU, setO, delO, newN, keysO, callU, Ef.bad, Option.getD_some, Option.getD_none, Option.map_some, Option.map_none, List.all_cons, List.all_nil, List.map_cons, List.map_nil, List.append_nil, List.nil_append, List.cons_append, List.length_cons, List.length_nil, List.mem_cons, List.not_mem_nil, Bool.and_true, Bool.true_and, Bool.and_self, Bool.not_true, Bool.not_false, Bool.or_self, Bool.or_false, Bool.false_or, Bool.false_eq_true, Bool.true_eq_false, Bool.cond_true_left, Bool.cond_false_right, cond_true, cond_false, reduceCtorEq, ↓reduceIte, if_true, if_false, true_and, and_true, and_self, false_and, and_false, or_false, false_or, not_false_eq_true, not_true_eq_false, forall_const, true_implies, false_implies, implies_true, imp_self, eq_self, ne_eq, Nat.reduceAdd, Nat.reduceSub, Nat.reduceMul, Nat.reduceMod, Nat.reduceLeDiff, Nat.reduceEqDiff, Nat.zero_add, Nat.add_zero, Nat.le_refl, Nat.succ_ne_self, Nat.one_ne_zero, Nat.zero_ne_one, Int.toNat_natCast, litRow, List.drop_succ_cons, List.drop_zero, List.take_succ_cons, List.take_zero, pubE, pubV, pubL, pubO, pubFE, pubFV, pubFL, pubFO, delO, eqS, eqB, Nat.reduceLT, Nat.not_lt_zero, Nat.sub_zero, decide_true, decide_false, true_or, or_true, Int.le_refl, Int.cast_ofNat_Int, Int.reduceToNat, Int.reduceLT, Int.reduceLE, beq_self_eq_true, Nat.mul_one, Nat.one_mul, Nat.zero_mul])
      | refine And.intro (fun h => ?_) (fun h => ?_)
      | refine And.intro (by first | omega | (simp only [maxLen, decide_eq_true_eq, decide_eq_false_iff_not] at *; omega)) ?_
      | (refine TR.aslO rfl rfl rfl rfl trivial (Nat.le_of_ble_eq_true rfl) ?_
         try simp only [↓evSo_some, vcC_seq, vcC_reg, vcC_drw, vcC_skip, vcC_cond, vcC_block, vcC_exit, vcC_ret, vcC_bad, seqK_nrm, seqK_exit, seqK_ret, blkK_nrm, blkK_exit, blkK_ret, lopK_exit, lopK_ret, lopX_exit, lopX_ret, jmpK_nrm, jmpK_exit, jmpK_ret, nrmK_app, drwK_app, initE, vcR_nil, vcR_n, vcR_s, isCall, makes, hasU, slK, newOf, opR, binI, pickV, evS, evV, evX, evSs, evVs, evParts, evPartsS, fillV, catV, gOf, Go.Bx.get, Go.Bx.own?, cellsV, isCell, cut, cutD, nth, nthD, dropV, takeV, dropD, takeDV, putV, toDs, St.stp, Ef.stp, Stp.lg, lgs, setE, applyU, setO, delO, newN, keysO, callU, Ef.bad, Option.getD_some, Option.getD_none, Option.map_some, Option.map_none, List.all_cons, List.all_nil, List.map_cons, List.map_nil, List.append_nil, List.nil_append, List.cons_append, List.length_cons, List.length_nil, List.mem_cons, List.not_mem_nil, Bool.and_true, Bool.true_and, Bool.and_self, Bool.not_true, Bool.not_false, Bool.or_self, Bool.or_false, Bool.false_or, Bool.false_eq_true, Bool.true_eq_false, Bool.cond_true_left, Bool.cond_false_right, cond_true, cond_false, reduceCtorEq, ↓reduceIte, if_true, if_false, true_and, and_true, and_self, false_and, and_false, or_false, false_or, not_false_eq_true, not_true_eq_false, forall_const, true_implies, false_implies, implies_true, imp_self, eq_self, ne_eq, Nat.reduceAdd, Nat.reduceSub, Nat.reduceMul, Nat.reduceMod, Nat.reduceLeDiff, Nat.reduceEqDiff, Nat.zero_add, Nat.add_zero, Nat.le_refl, Nat.succ_ne_self, Nat.one_ne_zero, Nat.zero_ne_one, Int.toNat_natCast, litRow, List.drop_succ_cons, List.drop_zero, List.take_succ_cons, List.take_zero, pubE, pubV, pubL, pubO, pubFE, pubFV, pubFL, pubFO, delO, eqS, eqB, Nat.reduceLT, Nat.not_lt_zero, Nat.sub_zero, decide_true, decide_false, true_or, or_true, Int.le_refl, Int.cast_ofNat_Int, Int.reduceToNat, Int.reduceLT, Int.reduceLE, beq_self_eq_true, Nat.mul_one, Nat.one_mul, Nat.zero_mul])
      | refine And.intro trivial ?_
      | refine And.intro rfl ?_
      | fail
  · have h' : y % 400 = 0 := by have := eq_of_beq h; omega
    exact RetK.pure (by simp only [rs53, ressS, resS, and_self]) (by (simp only [rs53, retV, resV, Go.Bx.get, ↓reduceIte, eq_self, VLe_bool, Go.Bx.get, ↓reduceIte, eq_self]) <;> (first | (symm; rw [hl]; omega)))
  · have h' : ¬ y % 400 = 0 := by simp only [beq_eq_false_iff_ne, ne_eq] at h; omega
    exact RetK.pure (by simp only [rs53, ressS, resS, and_self]) (by (simp only [rs53, retV, resV, Go.Bx.get, ↓reduceIte, eq_self, VLe_bool, Go.Bx.get, ↓reduceIte, eq_self]) <;> (first | (rw [Bool.eq_iff_iff, hl]; simp only [Bool.and_eq_true, beq_iff_eq, bne_iff_ne, ne_eq]; omega)))
def lenV (y : Nat) : List V := [.d (.int .i64 31), .d (.int .i64 (feb y : Nat)), .d (.int .i64 31), .d (.int .i64 30), .d (.int .i64 31), .d (.int .i64 30), .d (.int .i64 31), .d (.int .i64 31), .d (.int .i64 30), .d (.int .i64 31), .d (.int .i64 30), .d (.int .i64 31)]
theorem len_nth (y : Nat) {k : Nat} (h : k < 12) : nth [.d (.int .i64 31), .d (.int .i64 (feb y : Nat)), .d (.int .i64 31), .d (.int .i64 30), .d (.int .i64 31), .d (.int .i64 30), .d (.int .i64 31), .d (.int .i64 31), .d (.int .i64 30), .d (.int .i64 31), .d (.int .i64 30), .d (.int .i64 31)] k = .d (.int .i64 (mlen y (k + 1) : Nat)) := by
  have : k = 0 ∨ k = 1 ∨ k = 2 ∨ k = 3 ∨ k = 4 ∨ k = 5 ∨ k = 6 ∨ k = 7 ∨ k = 8 ∨ k = 9 ∨ k = 10 ∨ k = 11 := by omega
  rcases this with rfl | rfl | rfl | rfl | rfl | rfl | rfl | rfl | rfl | rfl | rfl | rfl <;> rfl
theorem sLen (y : Nat) : Ctr Try.prog 34 [.d (.int .i64 (y : Int))] [] (.ag (lenV y)) [] [] := by
  have ho := ylen_or y
  have e0 : IntKind.i64.wrap (28 + 1) = 29 := wI (by omega)
  refine pure34 (by simp) rfl rfl ?_; intro c hP hfn; simp only [c34, vcC_seq, vcC_reg, seqK_nrm, nrmK_app, initE, vcR_nil, vcR_n, isCall, makes, newOf, opR, evS, evV, evX, evParts, evPartsS, fillV, Go.Bx.get, Go.Bx.own?, cellsV, isCell, putV, St.stp, Ef.stp, lgs, setE, applyU, setO, newN, Option.getD_some, List.all_cons, List.all_nil, List.length_cons, List.length_nil, List.mem_cons, List.not_mem_nil, Bool.and_self, Bool.false_eq_true, reduceCtorEq, ↓reduceIte, true_and, and_self, or_false, not_false_eq_true, eq_self, Nat.reduceAdd, Nat.reduceLeDiff, Nat.reduceEqDiff, Nat.zero_add, Nat.le_refl, Nat.succ_ne_self, decide_true]
  repeat' first
      | (first
          | refine TR.p hP (by first | exact sLeap y) (by repeat' first | exact trivial | (intro _; assumption) | apply And.intro) ?_
          | refine TR.gp hP rfl (fun _ => by first | exact sLeap y) (fun _ => by repeat' first | exact trivial | (intro _; assumption) | apply And.intro) ?_
          | refine TR.pv hP rfl (by first | exact sLeap y) trivial (by repeat' first | exact trivial | (intro _; assumption) | apply And.intro) ?_
         try simp only [e0, vcC_seq, vcC_reg, vcC_skip, vcC_cond, vcC_ret, seqK_nrm, nrmK_app, vcR_nil, vcR_n, isCall, makes, newOf, opR, binI, evS, evV, evX, Go.Bx.get, Go.Bx.own?, cellsV, isCell, cut, nth, dropV, takeV, putV, St.stp, Ef.stp, lgs, setE, applyU, setO, newN, List.all_cons, List.all_nil, List.length_cons, List.length_nil, List.mem_cons, List.not_mem_nil, Bool.and_self, Bool.false_eq_true, ↓reduceIte, true_and, and_self, or_false, eq_self, Nat.reduceAdd, Nat.reduceLeDiff, Nat.reduceEqDiff, Nat.zero_add, Nat.le_refl, Nat.succ_ne_self, or_true, Int.cast_ofNat_Int, Int.reduceToNat, Int.reduceLT, Int.reduceLE, Nat.mul_one])
      | refine And.intro (fun h => ?_) (fun h => ?_)
      | refine And.intro (by first | omega | (simp only [maxLen, decide_eq_true_eq, decide_eq_false_iff_not] at *; omega)) ?_
      | (refine TR.aslO rfl rfl rfl rfl trivial (Nat.le_of_ble_eq_true rfl) ?_
         try simp only [e0, ↓evSo_some, vcC_seq, vcC_reg, vcC_drw, vcC_skip, vcC_cond, vcC_block, vcC_exit, vcC_ret, vcC_bad, seqK_nrm, seqK_exit, seqK_ret, blkK_nrm, blkK_exit, blkK_ret, lopK_exit, lopK_ret, lopX_exit, lopX_ret, jmpK_nrm, jmpK_exit, jmpK_ret, nrmK_app, drwK_app, initE, vcR_nil, vcR_n, vcR_s, isCall, makes, hasU, slK, newOf, opR, binI, pickV, evS, evV, evX, evSs, evVs, evParts, evPartsS, fillV, catV, gOf, Go.Bx.get, Go.Bx.own?, cellsV, isCell, cut, cutD, nth, nthD, dropV, takeV, dropD, takeDV, putV, toDs, St.stp, Ef.stp, Stp.lg, lgs, setE, applyU, setO, delO, newN, keysO, callU, Ef.bad, Option.getD_some, Option.getD_none, Option.map_some, Option.map_none, List.all_cons, List.all_nil, List.map_cons, List.map_nil, List.append_nil, List.nil_append, List.cons_append, List.length_cons, List.length_nil, List.mem_cons, List.not_mem_nil, Bool.and_true, Bool.true_and, Bool.and_self, Bool.not_true, Bool.not_false, Bool.or_self, Bool.or_false, Bool.false_or, Bool.false_eq_true, Bool.true_eq_false, Bool.cond_true_left, Bool.cond_false_right, cond_true, cond_false, reduceCtorEq, ↓reduceIte, if_true, if_false, true_and, and_true, and_self, false_and, and_false, or_false, false_or, not_false_eq_true, not_true_eq_false, forall_const, true_implies, false_implies, implies_true, imp_self, eq_self, ne_eq, Nat.reduceAdd, Nat.reduceSub, Nat.reduceMul, Nat.reduceMod, Nat.reduceLeDiff, Nat.reduceEqDiff, Nat.zero_add, Nat.add_zero, Nat.le_refl, Nat.succ_ne_self, Nat.one_ne_zero, Nat.zero_ne_one, Int.toNat_natCast, litRow, List.drop_succ_cons, List.drop_zero, List.take_succ_cons, List.take_zero, pubE, pubV, pubL, pubO, pubFE, pubFV, pubFL, pubFO, delO, eqS, eqB, Nat.reduceLT, Nat.not_lt_zero, Nat.sub_zero, decide_true, decide_false, true_or, or_true, Int.le_refl, Int.cast_ofNat_Int, Int.reduceToNat, Int.reduceLT, Int.reduceLE, beq_self_eq_true, Nat.mul_one, Nat.one_mul, Nat.zero_mul])
      | refine And.intro trivial ?_
      | refine And.intro rfl ?_
      | fail
  · have hf : feb y = 29 := by rcases ho with h' | h'; exact h'.2.2; exact absurd h h'.1
    exact RetK.pure (by simp only [rs34, ressS, resS, Go.Bx.get, Go.Bx.own?, List.length_cons, List.length_nil, ↓reduceIte, and_self, eq_self, Nat.reduceAdd, Nat.reduceEqDiff, Nat.zero_add, Nat.le_refl, Nat.succ_ne_self]) (by (simp only [rs34, retV, resV, Go.Bx.get, Go.Bx.own?, cut, dropV, takeV, ↓reduceIte, eq_self, Nat.reduceEqDiff, Nat.succ_ne_self, Go.Bx.get, Go.Bx.own?, cut, dropV, takeV, ↓reduceIte, eq_self, Nat.reduceEqDiff, Nat.succ_ne_self]) <;> (first | (simp only [lenV, hf]; exact VLe.refl _)))
  · have hf : feb y = 28 := by rcases ho with h' | h'; exact absurd h (by rw [h'.1]; simp); exact h'.2.2
    exact RetK.pure (by simp only [rs34, ressS, resS, Go.Bx.get, Go.Bx.own?, List.length_cons, List.length_nil, ↓reduceIte, and_self, eq_self, Nat.reduceAdd, Nat.reduceEqDiff, Nat.zero_add, Nat.le_refl, Nat.succ_ne_self]) (by (simp only [rs34, retV, resV, Go.Bx.get, Go.Bx.own?, cut, dropV, takeV, ↓reduceIte, eq_self, Nat.reduceEqDiff, Nat.succ_ne_self, Go.Bx.get, Go.Bx.own?, cut, dropV, takeV, ↓reduceIte, eq_self, Nat.reduceEqDiff, Nat.succ_ne_self]) <;> (first | (simp only [lenV, hf]; exact VLe.refl _)))
theorem ah_int {y : Nat} (h1 : 1601 ≤ y) (h2 : y ≤ 20000) : IntKind.i64.wrap (IntKind.i64.wrap (IntKind.i64.wrap (IntKind.i64.wrap (IntKind.i64.wrap ((y : Int) - 1601) * 365) + IntKind.i64.wrap ((IntKind.i64.wrap ((y : Int) - 1601)).tdiv 4)) - IntKind.i64.wrap ((IntKind.i64.wrap ((y : Int) - 1601)).tdiv 100)) + IntKind.i64.wrap ((IntKind.i64.wrap ((y : Int) - 1601)).tdiv 400)) = (ahN y : Nat) := by
  obtain ⟨n, rfl⟩ : ∃ n, y = 1601 + n := ⟨y - 1601, by omega⟩
  have e : IntKind.i64.wrap (((1601 + n : Nat) : Int) - 1601) = (n : Int) := (wI (by omega)).trans (by omega)
  have e1 : ((n : Int)).tdiv 4 = ((n / 4 : Nat) : Int) := tdiv_nat n 4
  have e2 : ((n : Int)).tdiv 100 = ((n / 100 : Nat) : Int) := tdiv_nat n 100
  have e3 : ((n : Int)).tdiv 400 = ((n / 400 : Nat) : Int) := tdiv_nat n 400
  rw [e, e1, e2, e3, ah_at, wI (a := ((n / 4 : Nat) : Int)) (by omega), wI (a := ((n / 100 : Nat) : Int)) (by omega), wI (a := ((n / 400 : Nat) : Int)) (by omega), wI (a := (n : Int) * 365) (by omega), wI (a := (n : Int) * 365 + ((n / 4 : Nat) : Int)) (by omega), wI (a := (n : Int) * 365 + ((n / 4 : Nat) : Int) - ((n / 100 : Nat) : Int)) (by omega), wI (by omega)]
  omega
theorem sAhead (y : Nat) (h1 : 1601 ≤ y) (h2 : y ≤ 20000) : Ctr Try.prog 45 [.d (.int .i64 (y : Int))] [] (.d (.int .i64 (ahN y : Nat))) [] [] := by
  have e := ah_int h1 h2
  refine pure45 (by simp) rfl rfl ?_; intro c hP hfn; simp only [c45, vcC_seq, vcC_reg, vcC_ret, seqK_nrm, nrmK_app, initE, vcR_nil, vcR_n, isCall, makes, newOf, opR, binI, evS, evV, evX, Go.Bx.get, St.stp, Ef.stp, lgs, setE, applyU, newN, Bool.false_eq_true, reduceCtorEq, ↓reduceIte, true_and, and_self, eq_self, ne_eq, Nat.reduceEqDiff, Nat.succ_ne_self]
  repeat' first
      | (first
          | refine TR.p hP (by first | fail) (by repeat' first | exact trivial | (intro _; assumption) | apply And.intro) ?_
          | refine TR.gp hP rfl (fun _ => by first | fail) (fun _ => by repeat' first | exact trivial | (intro _; assumption) | apply And.intro) ?_
          | refine TR.pv hP rfl (by first | fail) trivial (by repeat' first | exact trivial | (intro _; assumption) | apply And.intro) ?_
         try simp only [↓evSo_some, vcC_seq, vcC_reg, vcC_drw, vcC_skip, vcC_cond, vcC_block, vcC_exit, vcC_ret, vcC_bad, seqK_nrm, seqK_exit, seqK_ret, blkK_nrm, blkK_exit, blkK_ret, lopK_exit, lopK_ret, lopX_exit, lopX_ret, jmpK_nrm, jmpK_exit, jmpK_ret, nrmK_app, drwK_app, initE, vcR_nil, vcR_n, vcR_s, isCall, makes, hasU, slK, newOf, opR, binI, pickV, evS, evV, evX, evSs, evVs, evParts, evPartsS, fillV, catV, gOf, Go.Bx.get, Go.Bx.own?, cellsV, isCell, cut, cutD, nth, nthD, dropV, takeV, dropD, takeDV, putV, toDs, St.stp, Ef.stp, Stp.lg, lgs, setE, applyU, setO, delO, newN, keysO, callU, Ef.bad, Option.getD_some, Option.getD_none, Option.map_some, Option.map_none, List.all_cons, List.all_nil, List.map_cons, List.map_nil, List.append_nil, List.nil_append, List.cons_append, List.length_cons, List.length_nil, List.mem_cons, List.not_mem_nil, Bool.and_true, Bool.true_and, Bool.and_self, Bool.not_true, Bool.not_false, Bool.or_self, Bool.or_false, Bool.false_or, Bool.false_eq_true, Bool.true_eq_false, Bool.cond_true_left, Bool.cond_false_right, cond_true, cond_false, reduceCtorEq, ↓reduceIte, if_true, if_false, true_and, and_true, and_self, false_and, and_false, or_false, false_or, not_false_eq_true, not_true_eq_false, forall_const, true_implies, false_implies, implies_true, imp_self, eq_self, ne_eq, Nat.reduceAdd, Nat.reduceSub, Nat.reduceMul, Nat.reduceMod, Nat.reduceLeDiff, Nat.reduceEqDiff, Nat.zero_add, Nat.add_zero, Nat.le_refl, Nat.succ_ne_self, Nat.one_ne_zero, Nat.zero_ne_one, Int.toNat_natCast, litRow, List.drop_succ_cons, List.drop_zero, List.take_succ_cons, List.take_zero, pubE, pubV, pubL, pubO, pubFE, pubFV, pubFL, pubFO, delO, eqS, eqB, Nat.reduceLT, Nat.not_lt_zero, Nat.sub_zero, decide_true, decide_false, true_or, or_true, Int.le_refl, Int.cast_ofNat_Int, Int.reduceToNat, Int.reduceLT, Int.reduceLE, beq_self_eq_true, Nat.mul_one, Nat.one_mul, Nat.zero_mul])
      | refine And.intro (fun h => ?_) (fun h => ?_)
      | refine And.intro (by first | omega | (simp only [maxLen, decide_eq_true_eq, decide_eq_false_iff_not] at *; omega)) ?_
      | (refine TR.aslO rfl rfl rfl rfl trivial (Nat.le_of_ble_eq_true rfl) ?_
         try simp only [↓evSo_some, vcC_seq, vcC_reg, vcC_drw, vcC_skip, vcC_cond, vcC_block, vcC_exit, vcC_ret, vcC_bad, seqK_nrm, seqK_exit, seqK_ret, blkK_nrm, blkK_exit, blkK_ret, lopK_exit, lopK_ret, lopX_exit, lopX_ret, jmpK_nrm, jmpK_exit, jmpK_ret, nrmK_app, drwK_app, initE, vcR_nil, vcR_n, vcR_s, isCall, makes, hasU, slK, newOf, opR, binI, pickV, evS, evV, evX, evSs, evVs, evParts, evPartsS, fillV, catV, gOf, Go.Bx.get, Go.Bx.own?, cellsV, isCell, cut, cutD, nth, nthD, dropV, takeV, dropD, takeDV, putV, toDs, St.stp, Ef.stp, Stp.lg, lgs, setE, applyU, setO, delO, newN, keysO, callU, Ef.bad, Option.getD_some, Option.getD_none, Option.map_some, Option.map_none, List.all_cons, List.all_nil, List.map_cons, List.map_nil, List.append_nil, List.nil_append, List.cons_append, List.length_cons, List.length_nil, List.mem_cons, List.not_mem_nil, Bool.and_true, Bool.true_and, Bool.and_self, Bool.not_true, Bool.not_false, Bool.or_self, Bool.or_false, Bool.false_or, Bool.false_eq_true, Bool.true_eq_false, Bool.cond_true_left, Bool.cond_false_right, cond_true, cond_false, reduceCtorEq, ↓reduceIte, if_true, if_false, true_and, and_true, and_self, false_and, and_false, or_false, false_or, not_false_eq_true, not_true_eq_false, forall_const, true_implies, false_implies, implies_true, imp_self, eq_self, ne_eq, Nat.reduceAdd, Nat.reduceSub, Nat.reduceMul, Nat.reduceMod, Nat.reduceLeDiff, Nat.reduceEqDiff, Nat.zero_add, Nat.add_zero, Nat.le_refl, Nat.succ_ne_self, Nat.one_ne_zero, Nat.zero_ne_one, Int.toNat_natCast, litRow, List.drop_succ_cons, List.drop_zero, List.take_succ_cons, List.take_zero, pubE, pubV, pubL, pubO, pubFE, pubFV, pubFL, pubFO, delO, eqS, eqB, Nat.reduceLT, Nat.not_lt_zero, Nat.sub_zero, decide_true, decide_false, true_or, or_true, Int.le_refl, Int.cast_ofNat_Int, Int.reduceToNat, Int.reduceLT, Int.reduceLE, beq_self_eq_true, Nat.mul_one, Nat.one_mul, Nat.zero_mul])
      | refine And.intro trivial ?_
      | refine And.intro rfl ?_
      | fail
  exact RetK.pure (by simp only [rs45, ressS, resS, and_self]) (by (simp only [rs45, retV, resV, Go.Bx.get, ↓reduceIte, eq_self, VLe_int, Go.Bx.get, ↓reduceIte, eq_self]) <;> (first | exact e))
def isD (n : Int) : Bool := decide (1 ≤ n) && decide (n ≤ 292194)
theorem isD_iff {n : Int} : isD n = true ↔ 1 ≤ n ∧ n ≤ 292194 := by simp only [isD, Bool.and_eq_true, decide_eq_true_eq]
theorem sIs (n : Int) : Ctr Try.prog 54 [.d (.int .i64 n)] [] (.d (.bool (isD n))) [] [] := by
  refine pure54 (by simp) rfl rfl ?_; intro c hP hfn; simp only [c54, vcC_seq, vcC_reg, vcC_ret, seqK_nrm, nrmK_app, initE, vcR_nil, vcR_n, vcR_s, isCall, makes, hasU, newOf, opR, binI, pickV, evS, evV, evX, gOf, Go.Bx.get, St.stp, Ef.stp, lgs, setE, applyU, newN, Option.getD_some, List.not_mem_nil, Bool.true_and, Bool.false_eq_true, Bool.cond_false_right, reduceCtorEq, ↓reduceIte, true_and, and_true, and_self, not_false_eq_true, forall_const, implies_true, imp_self, eq_self, Nat.reduceEqDiff, Nat.succ_ne_self]
  exact RetK.pure (by simp only [rs54, ressS, resS, and_self]) (by (simp only [rs54, retV, resV, Go.Bx.get, ↓reduceIte, eq_self, VLe_bool, Go.Bx.get, ↓reduceIte, eq_self]) <;> (first | rfl))
def yearD (n : Int) : Int × Int := if isD n = true then ((yN n.toNat : Nat), 0) else (0, 3)
theorem sYearD (n : Int) : Ctr Try.prog 44 [.d (.int .i64 n)] [] (.tup [.d (.int .i64 (yearD n).1), .d (.int .i64 (yearD n).2)]) [] [] := by
  refine pure44 (by simp) rfl rfl ?_; intro c hP hfn; simp only [c44, vcC_seq, vcC_reg, seqK_nrm, nrmK_app, initE, vcR_nil, vcR_n, isCall, makes, newOf, opR, evS, evV, evX, Go.Bx.get, St.stp, Ef.stp, lgs, setE, applyU, newN, Bool.false_eq_true, reduceCtorEq, ↓reduceIte, true_and, eq_self]
  repeat' first
      | (first
          | refine TR.p hP (by first | exact sIs n) (by repeat' first | exact trivial | (intro _; assumption) | apply And.intro) ?_
          | refine TR.gp hP rfl (fun _ => by first | exact sIs n) (fun _ => by repeat' first | exact trivial | (intro _; assumption) | apply And.intro) ?_
          | refine TR.pv hP rfl (by first | exact sIs n) trivial (by repeat' first | exact trivial | (intro _; assumption) | apply And.intro) ?_
         try simp only [vcC_seq, vcC_reg, vcC_skip, vcC_cond, vcC_block, vcC_ret, seqK_nrm, seqK_ret, nrmK_app, vcR_nil, vcR_n, isCall, makes, newOf, opR, binI, evS, evV, evX, Go.Bx.get, St.stp, Ef.stp, lgs, setE, applyU, newN, Bool.false_eq_true, reduceCtorEq, ↓reduceIte, true_and, and_self, eq_self, ne_eq])
      | refine And.intro (fun h => ?_) (fun h => ?_)
      | refine And.intro (by first | omega | (simp only [maxLen, decide_eq_true_eq, decide_eq_false_iff_not] at *; omega)) ?_
      | (refine TR.aslO rfl rfl rfl rfl trivial (Nat.le_of_ble_eq_true rfl) ?_
         try simp only [↓evSo_some, vcC_seq, vcC_reg, vcC_drw, vcC_skip, vcC_cond, vcC_block, vcC_exit, vcC_ret, vcC_bad, seqK_nrm, seqK_exit, seqK_ret, blkK_nrm, blkK_exit, blkK_ret, lopK_exit, lopK_ret, lopX_exit, lopX_ret, jmpK_nrm, jmpK_exit, jmpK_ret, nrmK_app, drwK_app, initE, vcR_nil, vcR_n, vcR_s, isCall, makes, hasU, slK, newOf, opR, binI, pickV, evS, evV, evX, evSs, evVs, evParts, evPartsS, fillV, catV, gOf, Go.Bx.get, Go.Bx.own?, cellsV, isCell, cut, cutD, nth, nthD, dropV, takeV, dropD, takeDV, putV, toDs, St.stp, Ef.stp, Stp.lg, lgs, setE, applyU, setO, delO, newN, keysO, callU, Ef.bad, Option.getD_some, Option.getD_none, Option.map_some, Option.map_none, List.all_cons, List.all_nil, List.map_cons, List.map_nil, List.append_nil, List.nil_append, List.cons_append, List.length_cons, List.length_nil, List.mem_cons, List.not_mem_nil, Bool.and_true, Bool.true_and, Bool.and_self, Bool.not_true, Bool.not_false, Bool.or_self, Bool.or_false, Bool.false_or, Bool.false_eq_true, Bool.true_eq_false, Bool.cond_true_left, Bool.cond_false_right, cond_true, cond_false, reduceCtorEq, ↓reduceIte, if_true, if_false, true_and, and_true, and_self, false_and, and_false, or_false, false_or, not_false_eq_true, not_true_eq_false, forall_const, true_implies, false_implies, implies_true, imp_self, eq_self, ne_eq, Nat.reduceAdd, Nat.reduceSub, Nat.reduceMul, Nat.reduceMod, Nat.reduceLeDiff, Nat.reduceEqDiff, Nat.zero_add, Nat.add_zero, Nat.le_refl, Nat.succ_ne_self, Nat.one_ne_zero, Nat.zero_ne_one, Int.toNat_natCast, litRow, List.drop_succ_cons, List.drop_zero, List.take_succ_cons, List.take_zero, pubE, pubV, pubL, pubO, pubFE, pubFV, pubFL, pubFO, delO, eqS, eqB, Nat.reduceLT, Nat.not_lt_zero, Nat.sub_zero, decide_true, decide_false, true_or, or_true, Int.le_refl, Int.cast_ofNat_Int, Int.reduceToNat, Int.reduceLT, Int.reduceLE, beq_self_eq_true, Nat.mul_one, Nat.one_mul, Nat.zero_mul])
      | refine And.intro trivial ?_
      | refine And.intro rfl ?_
      | fail
  · (refine RetK.pure (by simp only [rs44, ressS, resS, and_self]) (VLe.tups ?_); simp only [ressV, resV, Go.Bx.get, ↓reduceIte, eq_self, Nat.succ_ne_self])
    rw [yearD, if_neg (by simpa using h)]; exact ⟨VLe.refl _, VLe.refl _, trivial⟩
  have hi := isD_iff.1 (show isD n = true by simpa using h)
  have hd : yearD n = (((yN n.toNat : Nat) : Int), 0) := by rw [yearD, if_pos (by simpa using h)]
  obtain ⟨m, rfl⟩ : ∃ m : Nat, n = (m : Int) := ⟨n.toNat, by omega⟩
  rw [Int.toNat_natCast] at hd
  have hs := yN_spec (n := m) (by omega) (by omega)
  have hy : yN m = if m ≤ ahN (1601 + (m - 1) / 365) then 1600 + (m - 1) / 365 else 1601 + (m - 1) / 365 := rfl
  have e1 : IntKind.i64.wrap ((m : Int) - 1) = ((m - 1 : Nat) : Int) := (wI (by omega)).trans (by omega)
  have e2 : (((m - 1 : Nat) : Int)).tdiv 365 = (((m - 1) / 365 : Nat) : Int) := tdiv_nat _ 365
  have e3 : IntKind.i64.wrap (((m - 1) / 365 : Nat) : Int) = (((m - 1) / 365 : Nat) : Int) := wI (by omega)
  have e4 : IntKind.i64.wrap (1601 + (((m - 1) / 365 : Nat) : Int)) = ((1601 + (m - 1) / 365 : Nat) : Int) := (wI (by omega)).trans (by omega)
  have hq : (m - 1) / 365 ≤ 800 := by omega
  generalize (m - 1) / 365 = q at *
  clear h
  refine vcC.loop (X := Nat) (fun y => ⟨[(0, .d (.int .i64 m)), (4, .d (.int .i64 y))], [], []⟩) (fun y => 1601 ≤ y ∧ y ≤ 2401 ∧ ((yN m = if m ≤ ahN y then y - 1 else y) )) (fun y => y) (1601 + q) ⟨by omega, by omega, by rw [hy, show 1601 + q - 1 = 1600 + q by omega]⟩ (Wk.of [] hfn rfl (by simp only [EnvLe, VLe_refl, Go.Bx.get, reduceCtorEq, ↓reduceIte, and_self, eq_self, e1, e2, e3, e4]) (by simp only [OwnLe])) ?_
  rintro y ⟨h1, h2, h3⟩
  simp only [vcC_seq, vcC_reg, vcR_n, isCall, makes, newOf, opR, evS, evV, evX, Go.Bx.get, St.stp, Ef.stp, lgs, setE, applyU, newN, Bool.false_eq_true, reduceCtorEq, ↓reduceIte, true_and, eq_self]
  repeat' first
      | (first
          | refine TR.p hP (by first | exact sAhead y h1 (by omega)) (by repeat' first | exact trivial | (intro _; assumption) | apply And.intro) ?_
          | refine TR.gp hP rfl (fun _ => by first | exact sAhead y h1 (by omega)) (fun _ => by repeat' first | exact trivial | (intro _; assumption) | apply And.intro) ?_
          | refine TR.pv hP rfl (by first | exact sAhead y h1 (by omega)) trivial (by repeat' first | exact trivial | (intro _; assumption) | apply And.intro) ?_
         try simp only [vcC_seq, vcC_reg, vcC_skip, vcC_cond, vcC_block, vcC_exit, vcC_ret, seqK_nrm, seqK_exit, blkK_nrm, blkK_exit, lopK_exit, nrmK_app, vcR_nil, vcR_n, isCall, makes, newOf, opR, binI, evS, evV, evX, Go.Bx.get, St.stp, Ef.stp, lgs, setE, applyU, newN, Bool.false_eq_true, reduceCtorEq, ↓reduceIte, true_and, and_self, eq_self, Nat.reduceEqDiff, Nat.succ_ne_self])
      | refine And.intro (fun h => ?_) (fun h => ?_)
      | refine And.intro (by first | omega | (simp only [maxLen, decide_eq_true_eq, decide_eq_false_iff_not] at *; omega)) ?_
      | (refine TR.aslO rfl rfl rfl rfl trivial (Nat.le_of_ble_eq_true rfl) ?_
         try simp only [↓evSo_some, vcC_seq, vcC_reg, vcC_drw, vcC_skip, vcC_cond, vcC_block, vcC_exit, vcC_ret, vcC_bad, seqK_nrm, seqK_exit, seqK_ret, blkK_nrm, blkK_exit, blkK_ret, lopK_exit, lopK_ret, lopX_exit, lopX_ret, jmpK_nrm, jmpK_exit, jmpK_ret, nrmK_app, drwK_app, initE, vcR_nil, vcR_n, vcR_s, isCall, makes, hasU, slK, newOf, opR, binI, pickV, evS, evV, evX, evSs, evVs, evParts, evPartsS, fillV, catV, gOf, Go.Bx.get, Go.Bx.own?, cellsV, isCell, cut, cutD, nth, nthD, dropV, takeV, dropD, takeDV, putV, toDs, St.stp, Ef.stp, Stp.lg, lgs, setE, applyU, setO, delO, newN, keysO, callU, Ef.bad, Option.getD_some, Option.getD_none, Option.map_some, Option.map_none, List.all_cons, List.all_nil, List.map_cons, List.map_nil, List.append_nil, List.nil_append, List.cons_append, List.length_cons, List.length_nil, List.mem_cons, List.not_mem_nil, Bool.and_true, Bool.true_and, Bool.and_self, Bool.not_true, Bool.not_false, Bool.or_self, Bool.or_false, Bool.false_or, Bool.false_eq_true, Bool.true_eq_false, Bool.cond_true_left, Bool.cond_false_right, cond_true, cond_false, reduceCtorEq, ↓reduceIte, if_true, if_false, true_and, and_true, and_self, false_and, and_false, or_false, false_or, not_false_eq_true, not_true_eq_false, forall_const, true_implies, false_implies, implies_true, imp_self, eq_self, ne_eq, Nat.reduceAdd, Nat.reduceSub, Nat.reduceMul, Nat.reduceMod, Nat.reduceLeDiff, Nat.reduceEqDiff, Nat.zero_add, Nat.add_zero, Nat.le_refl, Nat.succ_ne_self, Nat.one_ne_zero, Nat.zero_ne_one, Int.toNat_natCast, litRow, List.drop_succ_cons, List.drop_zero, List.take_succ_cons, List.take_zero, pubE, pubV, pubL, pubO, pubFE, pubFV, pubFL, pubFO, delO, eqS, eqB, Nat.reduceLT, Nat.not_lt_zero, Nat.sub_zero, decide_true, decide_false, true_or, or_true, Int.le_refl, Int.cast_ofNat_Int, Int.reduceToNat, Int.reduceLT, Int.reduceLE, beq_self_eq_true, Nat.mul_one, Nat.one_mul, Nat.zero_mul])
      | refine And.intro trivial ?_
      | refine And.intro rfl ?_
      | fail
  · have h' : m ≤ ahN y := by have := of_decide_eq_true h; omega
    rw [if_pos h'] at h3
    have e5 : IntKind.i64.wrap ((y : Int) - 1) = ((y - 1 : Nat) : Int) := (wI (by omega)).trans (by omega)
    simp only [e5]
    exact lopK.on (y - 1) ⟨by omega, by omega, by rw [← h3, if_neg (by omega)]⟩ (by omega) (Wk.of [] hfn rfl (by simp only [EnvLe, VLe_refl, Go.Bx.get, reduceCtorEq, ↓reduceIte, and_self, eq_self]) (by simp only [OwnLe]))
  · have h' : ¬ m ≤ ahN y := by have := of_decide_eq_false h; omega
    rw [if_neg h'] at h3
    (refine RetK.pure (by simp only [rs44, ressS, resS, and_self]) (VLe.tups ?_); simp only [ressV, resV, Go.Bx.get, ↓reduceIte, eq_self, Nat.succ_ne_self])
    rw [hd, h3]; exact ⟨VLe.refl _, VLe.refl _, trivial⟩
end Go.Proofs.Ythkfedghiklmeaa
