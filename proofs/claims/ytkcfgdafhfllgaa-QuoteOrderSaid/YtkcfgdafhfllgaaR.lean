import Derived.Test.YtkcfgdafhfllgaaN
/-! The document's numbers (bordereauref01): check, Two, Even, Bp; for every seat that reaches them. -/
namespace Go.Proofs.Ytkcfgdafhfllgaa
open Go.Bx
set_option maxRecDepth 10000

/-! The document's way: bit by bit. -/
def twoR (a b k : Nat) : Int × Int × Bool := if 4000000000000000000 < a * b / k then (0, 0, false) else (((a * b / k : Nat) : Int), ((a * b % k : Nat) : Int), true)
theorem two_step {A b k q l : Nat} (h : A * b = q * k + l) (hl : l < k) :
    2 * A * b = (2 * q + (if k ≤ 2 * l then 1 else 0)) * k + (2 * l - (if k ≤ 2 * l then k else 0)) ∧ (2 * l - (if k ≤ 2 * l then k else 0)) < k := by
  have e : 2 * A * b = 2 * (q * k) + 2 * l := by rw [Nat.mul_assoc, h]; omega
  split
  · have e2 : (2 * q + 1) * k = 2 * (q * k) + k := by rw [Nat.add_mul, Nat.mul_assoc, Nat.one_mul]
    rw [e, e2]; omega
  · have e2 : (2 * q + 0) * k = 2 * (q * k) := by rw [Nat.add_zero, Nat.mul_assoc]
    rw [e, e2]; omega
theorem two_add {X b k q l : Nat} (h : X * b = q * k + l) (hl : l < k) :
    (X + 1) * b = (q + b / k + (if k ≤ l + b % k then 1 else 0)) * k + (l + b % k - (if k ≤ l + b % k then k else 0)) ∧ (l + b % k - (if k ≤ l + b % k then k else 0)) < k := by
  have hb := Nat.div_add_mod' b k
  have hm := Nat.mod_lt b (show 0 < k by omega)
  have e : (X + 1) * b = q * k + b / k * k + (l + b % k) := by rw [Nat.add_mul, Nat.one_mul, h]; omega
  split
  · have e2 : (q + b / k + 1) * k = q * k + b / k * k + k := by rw [Nat.add_mul, Nat.add_mul, Nat.one_mul]
    rw [e, e2]; omega
  · have e2 : (q + b / k + 0) * k = q * k + b / k * k := by rw [Nat.add_zero, Nat.add_mul]
    rw [e, e2]; omega
theorem div_of {n k q l : Nat} (h : n = q * k + l) (hl : l < k) : n / k = q ∧ n % k = l := by
  have hk : 0 < k := by omega
  constructor
  · rw [h, Nat.mul_comm q k, Nat.mul_add_div hk, Nat.div_eq_of_lt hl, Nat.add_zero]
  · rw [h, Nat.mul_comm q k, Nat.mul_add_mod, Nat.mod_eq_of_lt hl]
theorem two_over {X a b k q l : Nat} (h : X * b = q * k + l) (hl : l < k) (hX : X ≤ a) (hq : 4000000000000000000 < q) : twoR a b k = (0, 0, false) := by
  have h1 := (div_of h hl).1
  have h2 : X * b / k ≤ a * b / k := Nat.div_le_div_right (Nat.mul_le_mul_right b hX)
  rw [twoR, if_pos (by omega)]
theorem two_fin {a b k q l : Nat} (h : a * b = q * k + l) (hl : l < k) (hq : q ≤ 4000000000000000000) : twoR a b k = ((q : Int), (l : Int), true) := by
  have h1 := div_of h hl
  rw [twoR, h1.1, h1.2, if_neg (by omega)]
theorem shrN (a j : Nat) (h : j ≤ 62) : (a : Int).fdiv (2 ^ min j IntKind.i64.bits) = ((a / 2 ^ j : Nat) : Int) := by
  rw [show min j IntKind.i64.bits = j from Nat.min_eq_left (Nat.le_trans h (by decide)), show (2 : Int) ^ j = ((2 ^ j : Nat) : Int) by simp]
  exact fdiv_nat _ _
theorem rTwo (a b k : Nat) (ha : a ≤ 9223372036854775807) (hb : b ≤ 9223372036854775807) (hc : k ≤ 9223372036854775807) (hk : 0 < k) :
    Ctr Try.prog 43 [.d (.int .i64 a), .d (.int .i64 b), .d (.int .i64 k)] [] (.tup [.d (.int .i64 (twoR a b k).1), .d (.int .i64 (twoR a b k).2.1), .d (.bool (twoR a b k).2.2)]) [] [] := by
  have e1 : IntKind.u64.wrap (b : Int) = (b : Int) := wU (by omega)
  have e2 : IntKind.u64.wrap (k : Int) = (k : Int) := wU (by omega)
  have e3 : IntKind.u64.wrap ((b : Int).tdiv (k : Int)) = ((b / k : Nat) : Int) := by rw [tdiv_nat, g1 _ _ (by omega)]
  have e4 : (b : Int).tmod (k : Int) = ((b % k : Nat) : Int) := tmod_nat b k
  have hbk : b / k ≤ b := Nat.div_le_self b k
  have hmk := Nat.mod_lt b hk
  generalize hw : b / k = w at *
  generalize hr : b % k = r at *
  refine pure43 (by simp) rfl rfl ?_; intro c hP hfn; simp only [c43, e1, e2, e3, e4, vcC_seq, vcC_reg, vcC_block, seqK_nrm, nrmK_app, initE, vcR_nil, vcR_n, isCall, makes, newOf, opR, binI, evS, evV, evX, Go.Bx.get, St.stp, Ef.stp, lgs, setE, applyU, newN, Bool.false_eq_true, reduceCtorEq, ↓reduceIte, true_and, eq_self, ne_eq, Nat.reduceAdd, Nat.reduceEqDiff, Nat.zero_add, Nat.succ_ne_self, Nat.zero_ne_one]
  repeat' first
      | (first
          | refine TR.p hP (by first | fail) (by repeat' first | exact trivial | (intro _; assumption) | apply And.intro) ?_
          | refine TR.gp hP rfl (fun _ => by first | fail) (fun _ => by repeat' first | exact trivial | (intro _; assumption) | apply And.intro) ?_
          | refine TR.pv hP rfl (by first | fail) trivial (by repeat' first | exact trivial | (intro _; assumption) | apply And.intro) ?_
         try simp only [e1, e2, e3, e4, ↓evSo_some, vcC_seq, vcC_reg, vcC_drw, vcC_skip, vcC_cond, vcC_block, vcC_exit, vcC_ret, vcC_bad, seqK_nrm, seqK_exit, seqK_ret, blkK_nrm, blkK_exit, blkK_ret, lopK_exit, lopK_ret, lopX_exit, lopX_ret, jmpK_nrm, jmpK_exit, jmpK_ret, nrmK_app, drwK_app, initE, vcR_nil, vcR_n, vcR_s, isCall, makes, hasU, slK, newOf, opR, binI, pickV, evS, evV, evX, evSs, evVs, evParts, evPartsS, fillV, catV, gOf, Go.Bx.get, Go.Bx.own?, cellsV, isCell, cut, cutD, nth, nthD, dropV, takeV, dropD, takeDV, putV, toDs, St.stp, Ef.stp, Stp.lg, lgs, setE, applyU, setO, delO, newN, keysO, callU, Ef.bad, Option.getD_some, Option.getD_none, Option.map_some, Option.map_none, List.all_cons, List.all_nil, List.map_cons, List.map_nil, List.append_nil, List.nil_append, List.cons_append, List.length_cons, List.length_nil, List.mem_cons, List.not_mem_nil, Bool.and_true, Bool.true_and, Bool.and_self, Bool.not_true, Bool.not_false, Bool.or_self, Bool.or_false, Bool.false_or, Bool.false_eq_true, Bool.true_eq_false, Bool.cond_true_left, Bool.cond_false_right, cond_true, cond_false, reduceCtorEq, ↓reduceIte, if_true, if_false, true_and, and_true, and_self, false_and, and_false, or_false, false_or, not_false_eq_true, not_true_eq_false, forall_const, true_implies, false_implies, implies_true, imp_self, eq_self, ne_eq, Nat.reduceAdd, Nat.reduceSub, Nat.reduceMul, Nat.reduceLeDiff, Nat.reduceEqDiff, Nat.zero_add, Nat.add_zero, Nat.le_refl, Nat.succ_ne_self, Nat.one_ne_zero, Nat.zero_ne_one, Int.toNat_natCast, litRow, List.drop_succ_cons, List.drop_zero, List.take_succ_cons, List.take_zero, pubE, pubV, pubL, pubO, pubFE, pubFV, pubFL, pubFO, delO, eqS, eqB, Nat.reduceLT, Nat.not_lt_zero, Nat.sub_zero, decide_true, decide_false, true_or, or_true, Int.le_refl, Int.cast_ofNat_Int, Int.reduceToNat, Int.reduceLT, Int.reduceLE, beq_self_eq_true, Nat.mul_one, Nat.one_mul, Nat.zero_mul])
      | refine And.intro (fun h => ?_) (fun h => ?_)
      | refine And.intro (by first | omega | (simp only [maxLen, decide_eq_true_eq, decide_eq_false_iff_not] at *; omega)) ?_
      | (refine TR.aslO rfl rfl rfl rfl trivial (Nat.le_of_ble_eq_true rfl) ?_
         try simp only [e1, e2, e3, e4, ↓evSo_some, vcC_seq, vcC_reg, vcC_drw, vcC_skip, vcC_cond, vcC_block, vcC_exit, vcC_ret, vcC_bad, seqK_nrm, seqK_exit, seqK_ret, blkK_nrm, blkK_exit, blkK_ret, lopK_exit, lopK_ret, lopX_exit, lopX_ret, jmpK_nrm, jmpK_exit, jmpK_ret, nrmK_app, drwK_app, initE, vcR_nil, vcR_n, vcR_s, isCall, makes, hasU, slK, newOf, opR, binI, pickV, evS, evV, evX, evSs, evVs, evParts, evPartsS, fillV, catV, gOf, Go.Bx.get, Go.Bx.own?, cellsV, isCell, cut, cutD, nth, nthD, dropV, takeV, dropD, takeDV, putV, toDs, St.stp, Ef.stp, Stp.lg, lgs, setE, applyU, setO, delO, newN, keysO, callU, Ef.bad, Option.getD_some, Option.getD_none, Option.map_some, Option.map_none, List.all_cons, List.all_nil, List.map_cons, List.map_nil, List.append_nil, List.nil_append, List.cons_append, List.length_cons, List.length_nil, List.mem_cons, List.not_mem_nil, Bool.and_true, Bool.true_and, Bool.and_self, Bool.not_true, Bool.not_false, Bool.or_self, Bool.or_false, Bool.false_or, Bool.false_eq_true, Bool.true_eq_false, Bool.cond_true_left, Bool.cond_false_right, cond_true, cond_false, reduceCtorEq, ↓reduceIte, if_true, if_false, true_and, and_true, and_self, false_and, and_false, or_false, false_or, not_false_eq_true, not_true_eq_false, forall_const, true_implies, false_implies, implies_true, imp_self, eq_self, ne_eq, Nat.reduceAdd, Nat.reduceSub, Nat.reduceMul, Nat.reduceLeDiff, Nat.reduceEqDiff, Nat.zero_add, Nat.add_zero, Nat.le_refl, Nat.succ_ne_self, Nat.one_ne_zero, Nat.zero_ne_one, Int.toNat_natCast, litRow, List.drop_succ_cons, List.drop_zero, List.take_succ_cons, List.take_zero, pubE, pubV, pubL, pubO, pubFE, pubFV, pubFL, pubFO, delO, eqS, eqB, Nat.reduceLT, Nat.not_lt_zero, Nat.sub_zero, decide_true, decide_false, true_or, or_true, Int.le_refl, Int.cast_ofNat_Int, Int.reduceToNat, Int.reduceLT, Int.reduceLE, beq_self_eq_true, Nat.mul_one, Nat.one_mul, Nat.zero_mul])
      | refine And.intro rfl ?_
      | fail
  refine vcC.loop (X := Nat × Nat × Nat) (fun x => ⟨[(0, .d (.int .i64 a)), (9, .d (.int .u64 x.2.1)), (10, .d (.int .u64 x.2.2)), (11, .d (.int .u64 k)), (12, .d (.int .u64 w)), (13, .d (.int .u64 r)), (14, .d (.int .i64 ((x.1 : Int) - 1)))], [], []⟩)
    (fun x => x.1 ≤ 63 ∧ a / 2 ^ x.1 * b = x.2.1 * k + x.2.2 ∧ x.2.2 < k ∧ x.2.1 ≤ 4000000000000000000) (fun x => x.1) (63, 0, 0) ⟨by omega, by rw [Nat.div_eq_of_lt (Nat.lt_of_le_of_lt ha (by decide))]; simp, hk, by simp only; omega⟩ (Wk.of [] hfn rfl (by simp only [EnvLe, VLe_refl, VLe_int, Go.Bx.get, reduceCtorEq, ↓reduceIte, true_and, and_true, eq_self, Nat.reduceEqDiff, Nat.succ_ne_self, Int.cast_ofNat_Int]; rfl) (by simp only [OwnLe])) ?_
  rintro ⟨j, q, l⟩ ⟨hj, he, hl, hq⟩
  simp only at hj he hl hq
  simp only [vcC_seq, vcC_reg, vcC_skip, vcC_cond, vcC_block, vcC_exit, vcC_ret, seqK_nrm, seqK_exit, seqK_ret, blkK_nrm, blkK_exit, blkK_ret, lopK_exit, lopK_ret, nrmK_app, vcR_nil, vcR_n, isCall, makes, newOf, opR, binI, evS, evV, evX, Go.Bx.get, St.stp, Ef.stp, lgs, setE, applyU, newN, Bool.false_eq_true, reduceCtorEq, ↓reduceIte, true_and, and_self, eq_self, ne_eq, Nat.reduceEqDiff, Nat.succ_ne_self]
  refine ⟨fun h1 => ?_, fun h1 => ?_⟩
  · have hj0 : 0 < j := by have := of_decide_eq_true h1; omega
    obtain ⟨i, rfl⟩ : ∃ i, j = i + 1 := ⟨j - 1, by omega⟩
    have f0 : (((i + 1 : Nat) : Int) - 1) = (i : Int) := by omega
    have f1 : IntKind.u64.wrap (2 * (q : Int)) = ((2 * q : Nat) : Int) := (wU (by omega)).trans (by omega)
    have f2 : IntKind.u64.wrap (2 * (l : Int)) = ((2 * l : Nat) : Int) := (wU (by omega)).trans (by omega)
    have f3 := shrN a i (by omega)
    have f4 : IntKind.i64.wrap ((i : Int) - 1) = (i : Int) - 1 := wI (by omega)
    have hA : a / 2 ^ (i + 1) = a / 2 ^ i / 2 := by rw [Nat.pow_succ, Nat.div_div_eq_div_mul]
    have f5 : ((a / 2 ^ i : Nat) : Int).tmod 2 = ((a / 2 ^ i % 2 : Nat) : Int) := tmod_nat _ 2
    have hs := two_step he hl
    have hbit : a / 2 ^ i = 2 * (a / 2 ^ (i + 1)) + a / 2 ^ i % 2 := by rw [hA]; omega
    have hX : a / 2 ^ i ≤ a := Nat.div_le_self _ _
    simp only [f0, f1, f2, Int.toNat_natCast, f3, f4, f5]
    refine ⟨fun c1 => ?_, fun c1 => ?_⟩
    · have c1' : k ≤ 2 * l := by have := of_decide_eq_true c1; omega
      rw [if_pos c1', if_pos c1'] at hs
      have gq : IntKind.u64.wrap (((2 * q : Nat) : Int) + 1) = (((2 * q + 1) : Nat) : Int) := (wU (by omega)).trans (by omega)
      have gl : IntKind.u64.wrap (((2 * l : Nat) : Int) - (k : Int)) = (((2 * l - k) : Nat) : Int) := (wU (by omega)).trans (by omega)
      simp only [gq, gl]
      have gw : IntKind.u64.wrap ((((2 * q + 1) : Nat) : Int) + (w : Int)) = (((2 * q + 1) + w : Nat) : Int) := (wU (by omega)).trans (by omega)
      have gr : IntKind.u64.wrap ((((2 * l - k) : Nat) : Int) + (r : Int)) = (((2 * l - k) + r : Nat) : Int) := (wU (by omega)).trans (by omega)
      simp only [gw, gr]
      refine ⟨by omega, by omega, fun cb => ?_, fun cb => ?_⟩
      · have cb' : a / 2 ^ i % 2 = 1 := by have := eq_of_beq cb; omega
        rw [cb'] at hbit
        have hs2 := two_add hs.1 hs.2
        rw [hw, hr, ← hbit] at hs2
        refine ⟨fun c2 => ?_, fun c2 => ?_⟩
        · have c2' : k ≤ (2 * l - k) + r := by have := of_decide_eq_true c2; omega
          rw [if_pos c2', if_pos c2'] at hs2
          have gq2 : IntKind.u64.wrap ((((2 * q + 1) + w : Nat) : Int) + 1) = (((2 * q + 1) + w + 1 : Nat) : Int) := (wU (by omega)).trans (by omega)
          have gl2 : IntKind.u64.wrap ((((2 * l - k) + r : Nat) : Int) - (k : Int)) = (((2 * l - k) + r - k : Nat) : Int) := (wU (by omega)).trans (by omega)
          simp only [gq2, gl2]
          refine ⟨fun c3 => ?_, fun c3 => ?_⟩
          · have c3' : 4000000000000000000 < (2 * q + 1) + w + 1 := by have := of_decide_eq_true c3; omega
            have e := two_over hs2.1 hs2.2 hX c3'
            (refine RetK.pure (by simp only [rs43, ressS, resS, and_self]) (VLe.tups ?_); simp only [ressV, resV, Go.Bx.get, ↓reduceIte, eq_self, Nat.reduceEqDiff, Nat.succ_ne_self])
            rw [e]; exact ⟨VLe.refl _, VLe.refl _, VLe.refl _, trivial⟩
          · have c3' : (2 * q + 1) + w + 1 ≤ 4000000000000000000 := by have := of_decide_eq_false c3; omega
            exact lopK.on (i, (2 * q + 1) + w + 1, (2 * l - k) + r - k) ⟨by simp only; omega, hs2.1, hs2.2, c3'⟩ (by simp only; omega) (Wk.of [] hfn rfl (by simp only [EnvLe, VLe_refl, Go.Bx.get, reduceCtorEq, ↓reduceIte, and_self, eq_self, Nat.reduceEqDiff, Nat.succ_ne_self]) (by simp only [OwnLe]))
        · have c2' : ¬ k ≤ (2 * l - k) + r := by have := of_decide_eq_false c2; omega
          rw [if_neg c2', if_neg c2', Nat.add_zero, Nat.sub_zero] at hs2
          refine ⟨fun c3 => ?_, fun c3 => ?_⟩
          · have c3' : 4000000000000000000 < (2 * q + 1) + w := by have := of_decide_eq_true c3; omega
            have e := two_over hs2.1 hs2.2 hX c3'
            (refine RetK.pure (by simp only [rs43, ressS, resS, and_self]) (VLe.tups ?_); simp only [ressV, resV, Go.Bx.get, ↓reduceIte, eq_self, Nat.reduceEqDiff, Nat.succ_ne_self])
            rw [e]; exact ⟨VLe.refl _, VLe.refl _, VLe.refl _, trivial⟩
          · have c3' : (2 * q + 1) + w ≤ 4000000000000000000 := by have := of_decide_eq_false c3; omega
            exact lopK.on (i, (2 * q + 1) + w, (2 * l - k) + r) ⟨by simp only; omega, hs2.1, hs2.2, c3'⟩ (by simp only; omega) (Wk.of [] hfn rfl (by simp only [EnvLe, VLe_refl, Go.Bx.get, reduceCtorEq, ↓reduceIte, and_self, eq_self, Nat.reduceEqDiff, Nat.succ_ne_self]) (by simp only [OwnLe]))
      · have cb' : a / 2 ^ i % 2 = 0 := by
          have : ((a / 2 ^ i % 2 : Nat) : Int) ≠ 1 := by simpa using cb
          omega
        rw [cb', Nat.add_zero] at hbit
        rw [← hbit] at hs
        refine ⟨fun c3 => ?_, fun c3 => ?_⟩
        · have c3' : 4000000000000000000 < (2 * q + 1) := by have := of_decide_eq_true c3; omega
          have e := two_over hs.1 hs.2 hX c3'
          (refine RetK.pure (by simp only [rs43, ressS, resS, and_self]) (VLe.tups ?_); simp only [ressV, resV, Go.Bx.get, ↓reduceIte, eq_self, Nat.reduceEqDiff, Nat.succ_ne_self])
          rw [e]; exact ⟨VLe.refl _, VLe.refl _, VLe.refl _, trivial⟩
        · have c3' : (2 * q + 1) ≤ 4000000000000000000 := by have := of_decide_eq_false c3; omega
          exact lopK.on (i, (2 * q + 1), (2 * l - k)) ⟨by simp only; omega, hs.1, hs.2, c3'⟩ (by simp only; omega) (Wk.of [] hfn rfl (by simp only [EnvLe, VLe_refl, Go.Bx.get, reduceCtorEq, ↓reduceIte, and_self, eq_self, Nat.reduceEqDiff, Nat.succ_ne_self]) (by simp only [OwnLe]))
    · have c1' : ¬ k ≤ 2 * l := by have := of_decide_eq_false c1; omega
      rw [if_neg c1', if_neg c1', Nat.add_zero, Nat.sub_zero] at hs
      have gw : IntKind.u64.wrap ((((2 * q) : Nat) : Int) + (w : Int)) = (((2 * q) + w : Nat) : Int) := (wU (by omega)).trans (by omega)
      have gr : IntKind.u64.wrap ((((2 * l) : Nat) : Int) + (r : Int)) = (((2 * l) + r : Nat) : Int) := (wU (by omega)).trans (by omega)
      simp only [gw, gr]
      refine ⟨by omega, by omega, fun cb => ?_, fun cb => ?_⟩
      · have cb' : a / 2 ^ i % 2 = 1 := by have := eq_of_beq cb; omega
        rw [cb'] at hbit
        have hs2 := two_add hs.1 hs.2
        rw [hw, hr, ← hbit] at hs2
        refine ⟨fun c2 => ?_, fun c2 => ?_⟩
        · have c2' : k ≤ (2 * l) + r := by have := of_decide_eq_true c2; omega
          rw [if_pos c2', if_pos c2'] at hs2
          have gq2 : IntKind.u64.wrap ((((2 * q) + w : Nat) : Int) + 1) = (((2 * q) + w + 1 : Nat) : Int) := (wU (by omega)).trans (by omega)
          have gl2 : IntKind.u64.wrap ((((2 * l) + r : Nat) : Int) - (k : Int)) = (((2 * l) + r - k : Nat) : Int) := (wU (by omega)).trans (by omega)
          simp only [gq2, gl2]
          refine ⟨fun c3 => ?_, fun c3 => ?_⟩
          · have c3' : 4000000000000000000 < (2 * q) + w + 1 := by have := of_decide_eq_true c3; omega
            have e := two_over hs2.1 hs2.2 hX c3'
            (refine RetK.pure (by simp only [rs43, ressS, resS, and_self]) (VLe.tups ?_); simp only [ressV, resV, Go.Bx.get, ↓reduceIte, eq_self, Nat.reduceEqDiff, Nat.succ_ne_self])
            rw [e]; exact ⟨VLe.refl _, VLe.refl _, VLe.refl _, trivial⟩
          · have c3' : (2 * q) + w + 1 ≤ 4000000000000000000 := by have := of_decide_eq_false c3; omega
            exact lopK.on (i, (2 * q) + w + 1, (2 * l) + r - k) ⟨by simp only; omega, hs2.1, hs2.2, c3'⟩ (by simp only; omega) (Wk.of [] hfn rfl (by simp only [EnvLe, VLe_refl, Go.Bx.get, reduceCtorEq, ↓reduceIte, and_self, eq_self, Nat.reduceEqDiff, Nat.succ_ne_self]) (by simp only [OwnLe]))
        · have c2' : ¬ k ≤ (2 * l) + r := by have := of_decide_eq_false c2; omega
          rw [if_neg c2', if_neg c2', Nat.add_zero, Nat.sub_zero] at hs2
          refine ⟨fun c3 => ?_, fun c3 => ?_⟩
          · have c3' : 4000000000000000000 < (2 * q) + w := by have := of_decide_eq_true c3; omega
            have e := two_over hs2.1 hs2.2 hX c3'
            (refine RetK.pure (by simp only [rs43, ressS, resS, and_self]) (VLe.tups ?_); simp only [ressV, resV, Go.Bx.get, ↓reduceIte, eq_self, Nat.reduceEqDiff, Nat.succ_ne_self])
            rw [e]; exact ⟨VLe.refl _, VLe.refl _, VLe.refl _, trivial⟩
          · have c3' : (2 * q) + w ≤ 4000000000000000000 := by have := of_decide_eq_false c3; omega
            exact lopK.on (i, (2 * q) + w, (2 * l) + r) ⟨by simp only; omega, hs2.1, hs2.2, c3'⟩ (by simp only; omega) (Wk.of [] hfn rfl (by simp only [EnvLe, VLe_refl, Go.Bx.get, reduceCtorEq, ↓reduceIte, and_self, eq_self, Nat.reduceEqDiff, Nat.succ_ne_self]) (by simp only [OwnLe]))
      · have cb' : a / 2 ^ i % 2 = 0 := by
          have : ((a / 2 ^ i % 2 : Nat) : Int) ≠ 1 := by simpa using cb
          omega
        rw [cb', Nat.add_zero] at hbit
        rw [← hbit] at hs
        refine ⟨fun c3 => ?_, fun c3 => ?_⟩
        · have c3' : 4000000000000000000 < (2 * q) := by have := of_decide_eq_true c3; omega
          have e := two_over hs.1 hs.2 hX c3'
          (refine RetK.pure (by simp only [rs43, ressS, resS, and_self]) (VLe.tups ?_); simp only [ressV, resV, Go.Bx.get, ↓reduceIte, eq_self, Nat.reduceEqDiff, Nat.succ_ne_self])
          rw [e]; exact ⟨VLe.refl _, VLe.refl _, VLe.refl _, trivial⟩
        · have c3' : (2 * q) ≤ 4000000000000000000 := by have := of_decide_eq_false c3; omega
          exact lopK.on (i, (2 * q), (2 * l)) ⟨by simp only; omega, hs.1, hs.2, c3'⟩ (by simp only; omega) (Wk.of [] hfn rfl (by simp only [EnvLe, VLe_refl, Go.Bx.get, reduceCtorEq, ↓reduceIte, and_self, eq_self, Nat.reduceEqDiff, Nat.succ_ne_self]) (by simp only [OwnLe]))
  · have hj0 : j = 0 := by have := of_decide_eq_false h1; omega
    subst hj0
    rw [Nat.pow_zero, Nat.div_one] at he
    have e := two_fin he hl hq
    repeat' first
        | (first
            | refine TR.p hP (by first | fail) (by repeat' first | exact trivial | (intro _; assumption) | apply And.intro) ?_
            | refine TR.gp hP rfl (fun _ => by first | fail) (fun _ => by repeat' first | exact trivial | (intro _; assumption) | apply And.intro) ?_
            | refine TR.pv hP rfl (by first | fail) trivial (by repeat' first | exact trivial | (intro _; assumption) | apply And.intro) ?_
           try simp only [↓evSo_some, vcC_seq, vcC_reg, vcC_drw, vcC_skip, vcC_cond, vcC_block, vcC_exit, vcC_ret, vcC_bad, seqK_nrm, seqK_exit, seqK_ret, blkK_nrm, blkK_exit, blkK_ret, lopK_exit, lopK_ret, lopX_exit, lopX_ret, jmpK_nrm, jmpK_exit, jmpK_ret, nrmK_app, drwK_app, initE, vcR_nil, vcR_n, vcR_s, isCall, makes, hasU, slK, newOf, opR, binI, pickV, evS, evV, evX, evSs, evVs, evParts, evPartsS, fillV, catV, gOf, Go.Bx.get, Go.Bx.own?, cellsV, isCell, cut, cutD, nth, nthD, dropV, takeV, dropD, takeDV, putV, toDs, St.stp, Ef.stp, Stp.lg, lgs, setE, applyU, setO, delO, newN, keysO, callU, Ef.bad, Option.getD_some, Option.getD_none, Option.map_some, Option.map_none, List.all_cons, List.all_nil, List.map_cons, List.map_nil, List.append_nil, List.nil_append, List.cons_append, List.length_cons, List.length_nil, List.mem_cons, List.not_mem_nil, Bool.and_true, Bool.true_and, Bool.and_self, Bool.not_true, Bool.not_false, Bool.or_self, Bool.or_false, Bool.false_or, Bool.false_eq_true, Bool.true_eq_false, Bool.cond_true_left, Bool.cond_false_right, cond_true, cond_false, reduceCtorEq, ↓reduceIte, if_true, if_false, true_and, and_true, and_self, false_and, and_false, or_false, false_or, not_false_eq_true, not_true_eq_false, forall_const, true_implies, false_implies, implies_true, imp_self, eq_self, ne_eq, Nat.reduceAdd, Nat.reduceSub, Nat.reduceMul, Nat.reduceLeDiff, Nat.reduceEqDiff, Nat.zero_add, Nat.add_zero, Nat.le_refl, Nat.succ_ne_self, Nat.one_ne_zero, Nat.zero_ne_one, Int.toNat_natCast, litRow, List.drop_succ_cons, List.drop_zero, List.take_succ_cons, List.take_zero, pubE, pubV, pubL, pubO, pubFE, pubFV, pubFL, pubFO, delO, eqS, eqB, Nat.reduceLT, Nat.not_lt_zero, Nat.sub_zero, decide_true, decide_false, true_or, or_true, Int.le_refl, Int.cast_ofNat_Int, Int.reduceToNat, Int.reduceLT, Int.reduceLE, beq_self_eq_true, Nat.mul_one, Nat.one_mul, Nat.zero_mul])
        | refine And.intro (fun h => ?_) (fun h => ?_)
        | refine And.intro (by first | omega | (simp only [maxLen, decide_eq_true_eq, decide_eq_false_iff_not] at *; omega)) ?_
        | (refine TR.aslO rfl rfl rfl rfl trivial (Nat.le_of_ble_eq_true rfl) ?_
           try simp only [↓evSo_some, vcC_seq, vcC_reg, vcC_drw, vcC_skip, vcC_cond, vcC_block, vcC_exit, vcC_ret, vcC_bad, seqK_nrm, seqK_exit, seqK_ret, blkK_nrm, blkK_exit, blkK_ret, lopK_exit, lopK_ret, lopX_exit, lopX_ret, jmpK_nrm, jmpK_exit, jmpK_ret, nrmK_app, drwK_app, initE, vcR_nil, vcR_n, vcR_s, isCall, makes, hasU, slK, newOf, opR, binI, pickV, evS, evV, evX, evSs, evVs, evParts, evPartsS, fillV, catV, gOf, Go.Bx.get, Go.Bx.own?, cellsV, isCell, cut, cutD, nth, nthD, dropV, takeV, dropD, takeDV, putV, toDs, St.stp, Ef.stp, Stp.lg, lgs, setE, applyU, setO, delO, newN, keysO, callU, Ef.bad, Option.getD_some, Option.getD_none, Option.map_some, Option.map_none, List.all_cons, List.all_nil, List.map_cons, List.map_nil, List.append_nil, List.nil_append, List.cons_append, List.length_cons, List.length_nil, List.mem_cons, List.not_mem_nil, Bool.and_true, Bool.true_and, Bool.and_self, Bool.not_true, Bool.not_false, Bool.or_self, Bool.or_false, Bool.false_or, Bool.false_eq_true, Bool.true_eq_false, Bool.cond_true_left, Bool.cond_false_right, cond_true, cond_false, reduceCtorEq, ↓reduceIte, if_true, if_false, true_and, and_true, and_self, false_and, and_false, or_false, false_or, not_false_eq_true, not_true_eq_false, forall_const, true_implies, false_implies, implies_true, imp_self, eq_self, ne_eq, Nat.reduceAdd, Nat.reduceSub, Nat.reduceMul, Nat.reduceLeDiff, Nat.reduceEqDiff, Nat.zero_add, Nat.add_zero, Nat.le_refl, Nat.succ_ne_self, Nat.one_ne_zero, Nat.zero_ne_one, Int.toNat_natCast, litRow, List.drop_succ_cons, List.drop_zero, List.take_succ_cons, List.take_zero, pubE, pubV, pubL, pubO, pubFE, pubFV, pubFL, pubFO, delO, eqS, eqB, Nat.reduceLT, Nat.not_lt_zero, Nat.sub_zero, decide_true, decide_false, true_or, or_true, Int.le_refl, Int.cast_ofNat_Int, Int.reduceToNat, Int.reduceLT, Int.reduceLE, beq_self_eq_true, Nat.mul_one, Nat.one_mul, Nat.zero_mul])
        | refine And.intro rfl ?_
        | fail
    (refine RetK.pure (by simp only [rs43, ressS, resS, and_self, Int.cast_ofNat_Int]) (VLe.tups ?_); simp only [ressV, resV, Go.Bx.get, ↓reduceIte, eq_self, Nat.reduceEqDiff, Nat.succ_ne_self])
    rw [e, wI (by omega), wI (by omega)]; exact ⟨VLe.refl _, VLe.refl _, VLe.refl _, trivial⟩
def chk (a b k : Int) : Int := if a < 0 ∨ b < 0 ∨ k < 0 then 1 else if k = 0 then 6 else 0
theorem rChk (a b k : Int) : Ctr Try.prog 42 [.d (.int .i64 a), .d (.int .i64 b), .d (.int .i64 k)] [] (.d (.int .i64 (chk a b k))) [] [] := by
  refine pure42 (by simp) rfl rfl ?_; intro c hP hfn; simp only [c42, vcC_seq, vcC_reg, vcC_skip, vcC_cond, vcC_ret, seqK_nrm, seqK_ret, nrmK_app, initE, vcR_nil, vcR_n, vcR_s, isCall, makes, hasU, newOf, opR, binI, pickV, evS, evV, evX, gOf, Go.Bx.get, St.stp, Ef.stp, lgs, setE, applyU, newN, Option.getD_some, List.not_mem_nil, Bool.true_and, Bool.false_eq_true, Bool.cond_true_left, reduceCtorEq, ↓reduceIte, true_and, and_true, and_self, not_false_eq_true, forall_const, implies_true, imp_self, eq_self, Nat.reduceAdd, Nat.reduceEqDiff, Nat.zero_add, Nat.succ_ne_self, Nat.zero_ne_one]
  refine ⟨fun h => ?_, fun h => ⟨fun h2 => ?_, fun h2 => ?_⟩⟩
  · have h' : a < 0 ∨ b < 0 ∨ k < 0 := by simp only [Bool.or_eq_true, decide_eq_true_eq] at h; omega
    exact RetK.pure (by simp only [rs42, ressS, resS, and_self]) (by (simp only [rs42, retV, resV, Go.Bx.get, ↓reduceIte, eq_self, VLe_int, Go.Bx.get, ↓reduceIte, eq_self]) <;> (first | rw [chk, if_pos h']))
  · have h' : ¬ (a < 0 ∨ b < 0 ∨ k < 0) := by simp only [Bool.or_eq_false_iff, decide_eq_false_iff_not] at h; omega
    have h2' : k = 0 := by simpa using h2
    exact RetK.pure (by simp only [rs42, ressS, resS, and_self]) (by (simp only [rs42, retV, resV, Go.Bx.get, ↓reduceIte, eq_self, VLe_int, Go.Bx.get, ↓reduceIte, eq_self]) <;> (first | rw [chk, if_neg h', if_pos h2']))
  · have h' : ¬ (a < 0 ∨ b < 0 ∨ k < 0) := by simp only [Bool.or_eq_false_iff, decide_eq_false_iff_not] at h; omega
    have h2' : ¬ k = 0 := by simpa using h2
    exact RetK.pure (by simp only [rs42, ressS, resS, and_self]) (by (simp only [rs42, retV, resV, Go.Bx.get, ↓reduceIte, eq_self, VLe_int, Go.Bx.get, ↓reduceIte, eq_self]) <;> (first | rw [chk, if_neg h', if_neg h2']))
theorem of_chk {up : Nat → Nat → Nat → Bool} {a b k : Int} (h : chk a b k ≠ 0) : ofR up a b k = (0, chk a b k) := by
  unfold chk at h ⊢
  unfold ofR
  by_cases h1 : a < 0 ∨ b < 0 ∨ k < 0
  · rw [if_pos h1, if_pos h1]
  · by_cases h2 : k = 0
    · rw [if_neg h1, if_pos h2, if_neg h1, if_pos h2]
    · rw [if_neg h1, if_neg h2] at h; exact absurd rfl h
theorem chk_ok {a b k : Int} (h : chk a b k = 0) : 0 ≤ a ∧ 0 ≤ b ∧ 0 < k := by
  unfold chk at h
  by_cases h1 : a < 0 ∨ b < 0 ∨ k < 0
  · rw [if_pos h1] at h; cases h
  · by_cases h2 : k = 0
    · rw [if_neg h1, if_pos h2] at h; cases h
    · omega
theorem ofR_nat {up : Nat → Nat → Nat → Bool} (A B K : Nat) (hk : 0 < K) : ofR up (A : Int) (B : Int) (K : Int) = (if 4000000000000000000 < A * B / K then (0, 5) else
      if 4000000000000000000 < A * B / K + (if up (A * B / K) (A * B % K) K = true then 1 else 0) then (0, 5)
      else (((A * B / K + (if up (A * B / K) (A * B % K) K = true then 1 else 0) : Nat) : Int), 0)) := by
  rw [ofR, if_neg (by omega), if_neg (by omega)]; rfl
theorem rEven (a b k : Int) (ha : a ≤ 9223372036854775807) (hb : b ≤ 9223372036854775807) (hc : k ≤ 9223372036854775807) :
    Ctr Try.prog 35 [.d (.int .i64 a), .d (.int .i64 b), .d (.int .i64 k)] [] (.tup [.d (.int .i64 (ofR upE a b k).1), .d (.int .i64 (ofR upE a b k).2)]) [] [] := by
  refine pure35 (by simp) rfl rfl ?_; intro c hP hfn; simp only [c35, vcC_seq, vcC_reg, seqK_nrm, nrmK_app, initE, vcR_nil, vcR_n, isCall, makes, newOf, opR, evS, evV, evX, Go.Bx.get, St.stp, Ef.stp, lgs, setE, applyU, newN, Bool.false_eq_true, reduceCtorEq, ↓reduceIte, true_and, eq_self, Nat.reduceAdd, Nat.reduceEqDiff, Nat.zero_add, Nat.zero_ne_one]
  repeat' first
      | (first
          | refine TR.p hP (by first | exact rChk a b k) (by repeat' first | exact trivial | (intro _; assumption) | apply And.intro) ?_
          | refine TR.gp hP rfl (fun _ => by first | exact rChk a b k) (fun _ => by repeat' first | exact trivial | (intro _; assumption) | apply And.intro) ?_
          | refine TR.pv hP rfl (by first | exact rChk a b k) trivial (by repeat' first | exact trivial | (intro _; assumption) | apply And.intro) ?_
         try simp only [vcC_seq, vcC_reg, vcC_skip, vcC_cond, vcC_ret, seqK_nrm, seqK_ret, nrmK_app, vcR_nil, vcR_n, isCall, makes, newOf, opR, binI, evS, evV, evX, Go.Bx.get, St.stp, Ef.stp, lgs, setE, applyU, newN, Bool.false_eq_true, reduceCtorEq, ↓reduceIte, true_and, and_self, eq_self, Nat.reduceEqDiff, Nat.zero_ne_one])
      | refine And.intro (fun h => ?_) (fun h => ?_)
      | refine And.intro (by first | omega | (simp only [maxLen, decide_eq_true_eq, decide_eq_false_iff_not] at *; omega)) ?_
      | (refine TR.aslO rfl rfl rfl rfl trivial (Nat.le_of_ble_eq_true rfl) ?_
         try simp only [↓evSo_some, vcC_seq, vcC_reg, vcC_drw, vcC_skip, vcC_cond, vcC_block, vcC_exit, vcC_ret, vcC_bad, seqK_nrm, seqK_exit, seqK_ret, blkK_nrm, blkK_exit, blkK_ret, lopK_exit, lopK_ret, lopX_exit, lopX_ret, jmpK_nrm, jmpK_exit, jmpK_ret, nrmK_app, drwK_app, initE, vcR_nil, vcR_n, vcR_s, isCall, makes, hasU, slK, newOf, opR, binI, pickV, evS, evV, evX, evSs, evVs, evParts, evPartsS, fillV, catV, gOf, Go.Bx.get, Go.Bx.own?, cellsV, isCell, cut, cutD, nth, nthD, dropV, takeV, dropD, takeDV, putV, toDs, St.stp, Ef.stp, Stp.lg, lgs, setE, applyU, setO, delO, newN, keysO, callU, Ef.bad, Option.getD_some, Option.getD_none, Option.map_some, Option.map_none, List.all_cons, List.all_nil, List.map_cons, List.map_nil, List.append_nil, List.nil_append, List.cons_append, List.length_cons, List.length_nil, List.mem_cons, List.not_mem_nil, Bool.and_true, Bool.true_and, Bool.and_self, Bool.not_true, Bool.not_false, Bool.or_self, Bool.or_false, Bool.false_or, Bool.false_eq_true, Bool.true_eq_false, Bool.cond_true_left, Bool.cond_false_right, cond_true, cond_false, reduceCtorEq, ↓reduceIte, if_true, if_false, true_and, and_true, and_self, false_and, and_false, or_false, false_or, not_false_eq_true, not_true_eq_false, forall_const, true_implies, false_implies, implies_true, imp_self, eq_self, ne_eq, Nat.reduceAdd, Nat.reduceSub, Nat.reduceMul, Nat.reduceLeDiff, Nat.reduceEqDiff, Nat.zero_add, Nat.add_zero, Nat.le_refl, Nat.succ_ne_self, Nat.one_ne_zero, Nat.zero_ne_one, Int.toNat_natCast, litRow, List.drop_succ_cons, List.drop_zero, List.take_succ_cons, List.take_zero, pubE, pubV, pubL, pubO, pubFE, pubFV, pubFL, pubFO, delO, eqS, eqB, Nat.reduceLT, Nat.not_lt_zero, Nat.sub_zero, decide_true, decide_false, true_or, or_true, Int.le_refl, Int.cast_ofNat_Int, Int.reduceToNat, Int.reduceLT, Int.reduceLE, beq_self_eq_true, Nat.mul_one, Nat.one_mul, Nat.zero_mul])
      | refine And.intro rfl ?_
      | fail
  · have e := of_chk (up := upE) (show chk a b k ≠ 0 by simpa using h)
    (refine RetK.pure (by simp only [rs35, ressS, resS, and_self]) (VLe.tups ?_); simp only [ressV, resV, Go.Bx.get, ↓reduceIte, eq_self, Nat.succ_ne_self])
    rw [e]; exact ⟨VLe.refl _, VLe.refl _, trivial⟩
  have hq := chk_ok (show chk a b k = 0 by simpa using h)
  obtain ⟨A, rfl⟩ : ∃ A : Nat, a = (A : Int) := ⟨a.toNat, by omega⟩
  obtain ⟨B, rfl⟩ : ∃ B : Nat, b = (B : Int) := ⟨b.toNat, by omega⟩
  obtain ⟨K, rfl⟩ : ∃ K : Nat, k = (K : Int) := ⟨k.toNat, by omega⟩
  have hk0 : 0 < K := by omega
  have e := ofR_nat (up := upE) A B K hk0
  have c23 := rTwo A B K (by omega) (by omega) (by omega) hk0
  have hr := Nat.mod_lt (A * B) hk0
  by_cases h4 : 4000000000000000000 < A * B / K
  · rw [twoR, if_pos h4] at c23
    repeat' first
        | (first
            | refine TR.p hP (by first | exact c23) (by repeat' first | exact trivial | (intro _; assumption) | apply And.intro) ?_
            | refine TR.gp hP rfl (fun _ => by first | exact c23) (fun _ => by repeat' first | exact trivial | (intro _; assumption) | apply And.intro) ?_
            | refine TR.pv hP rfl (by first | exact c23) trivial (by repeat' first | exact trivial | (intro _; assumption) | apply And.intro) ?_
           try simp only [vcC_seq, vcC_reg, vcC_skip, vcC_cond, vcC_ret, seqK_nrm, seqK_ret, nrmK_app, vcR_nil, vcR_n, vcR_s, isCall, makes, hasU, newOf, opR, binI, pickV, evS, evV, evX, gOf, Go.Bx.get, nth, St.stp, Ef.stp, lgs, setE, applyU, newN, Option.getD_some, List.length_cons, List.length_nil, List.not_mem_nil, Bool.true_and, Bool.not_true, Bool.not_false, Bool.false_eq_true, Bool.true_eq_false, Bool.cond_true_left, Bool.cond_false_right, cond_true, cond_false, reduceCtorEq, ↓reduceIte, true_and, and_true, and_self, false_and, not_false_eq_true, forall_const, false_implies, implies_true, imp_self, eq_self, ne_eq, Nat.reduceAdd, Nat.reduceEqDiff, Nat.zero_add, Nat.succ_ne_self, Nat.reduceLT])
        | refine And.intro (fun h => ?_) (fun h => ?_)
        | refine And.intro (by first | omega | (simp only [maxLen, decide_eq_true_eq, decide_eq_false_iff_not] at *; omega)) ?_
        | (refine TR.aslO rfl rfl rfl rfl trivial (Nat.le_of_ble_eq_true rfl) ?_
           try simp only [↓evSo_some, vcC_seq, vcC_reg, vcC_drw, vcC_skip, vcC_cond, vcC_block, vcC_exit, vcC_ret, vcC_bad, seqK_nrm, seqK_exit, seqK_ret, blkK_nrm, blkK_exit, blkK_ret, lopK_exit, lopK_ret, lopX_exit, lopX_ret, jmpK_nrm, jmpK_exit, jmpK_ret, nrmK_app, drwK_app, initE, vcR_nil, vcR_n, vcR_s, isCall, makes, hasU, slK, newOf, opR, binI, pickV, evS, evV, evX, evSs, evVs, evParts, evPartsS, fillV, catV, gOf, Go.Bx.get, Go.Bx.own?, cellsV, isCell, cut, cutD, nth, nthD, dropV, takeV, dropD, takeDV, putV, toDs, St.stp, Ef.stp, Stp.lg, lgs, setE, applyU, setO, delO, newN, keysO, callU, Ef.bad, Option.getD_some, Option.getD_none, Option.map_some, Option.map_none, List.all_cons, List.all_nil, List.map_cons, List.map_nil, List.append_nil, List.nil_append, List.cons_append, List.length_cons, List.length_nil, List.mem_cons, List.not_mem_nil, Bool.and_true, Bool.true_and, Bool.and_self, Bool.not_true, Bool.not_false, Bool.or_self, Bool.or_false, Bool.false_or, Bool.false_eq_true, Bool.true_eq_false, Bool.cond_true_left, Bool.cond_false_right, cond_true, cond_false, reduceCtorEq, ↓reduceIte, if_true, if_false, true_and, and_true, and_self, false_and, and_false, or_false, false_or, not_false_eq_true, not_true_eq_false, forall_const, true_implies, false_implies, implies_true, imp_self, eq_self, ne_eq, Nat.reduceAdd, Nat.reduceSub, Nat.reduceMul, Nat.reduceLeDiff, Nat.reduceEqDiff, Nat.zero_add, Nat.add_zero, Nat.le_refl, Nat.succ_ne_self, Nat.one_ne_zero, Nat.zero_ne_one, Int.toNat_natCast, litRow, List.drop_succ_cons, List.drop_zero, List.take_succ_cons, List.take_zero, pubE, pubV, pubL, pubO, pubFE, pubFV, pubFL, pubFO, delO, eqS, eqB, Nat.reduceLT, Nat.not_lt_zero, Nat.sub_zero, decide_true, decide_false, true_or, or_true, Int.le_refl, Int.cast_ofNat_Int, Int.reduceToNat, Int.reduceLT, Int.reduceLE, beq_self_eq_true, Nat.mul_one, Nat.one_mul, Nat.zero_mul])
        | refine And.intro rfl ?_
        | fail
    (refine RetK.pure (by simp only [rs35, ressS, resS, and_self]) (VLe.tups ?_); simp only [ressV, resV, Go.Bx.get, ↓reduceIte, eq_self, Nat.succ_ne_self])
    rw [e, if_pos h4]; exact ⟨VLe.refl _, VLe.refl _, trivial⟩
  · rw [twoR, if_neg h4] at c23
    rw [if_neg h4] at e
    generalize A * B / K = q at *
    generalize A * B % K = r at *
    have e5 : IntKind.i64.wrap ((K : Int) - (r : Int)) = ((K - r : Nat) : Int) := (wI (by omega)).trans (by omega)
    have e6 : ((q : Nat) : Int).tmod 2 = ((q % 2 : Nat) : Int) := tmod_nat q 2
    have e7 : IntKind.i64.wrap ((q : Int) + 1) = ((q + 1 : Nat) : Int) := (wI (by omega)).trans (by omega)
    have hcond : (decide ((r : Int) > ((K - r : Nat) : Int)) || ((r : Int) == ((K - r : Nat) : Int) && ((q % 2 : Nat) : Int) == 1)) = upE q r K := by
      rw [Bool.eq_iff_iff]; simp only [upE, Bool.or_eq_true, Bool.and_eq_true, decide_eq_true_eq, beq_iff_eq]; omega
    by_cases hu : upE q r K = true
    · rw [if_pos hu] at e
      rw [hu] at hcond
      repeat' first
          | (first
              | refine TR.p hP (by first | exact c23) (by repeat' first | exact trivial | (intro _; assumption) | apply And.intro) ?_
              | refine TR.gp hP rfl (fun _ => by first | exact c23) (fun _ => by repeat' first | exact trivial | (intro _; assumption) | apply And.intro) ?_
              | refine TR.pv hP rfl (by first | exact c23) trivial (by repeat' first | exact trivial | (intro _; assumption) | apply And.intro) ?_
             try simp only [e5, e6, e7, hcond, vcC_seq, vcC_reg, vcC_skip, vcC_cond, vcC_ret, seqK_nrm, seqK_ret, nrmK_app, vcR_nil, vcR_n, vcR_s, isCall, makes, hasU, newOf, opR, binI, pickV, evS, evV, evX, gOf, Go.Bx.get, nth, St.stp, Ef.stp, lgs, setE, applyU, newN, Option.getD_some, List.length_cons, List.length_nil, List.not_mem_nil, Bool.true_and, Bool.and_self, Bool.not_true, Bool.not_false, Bool.false_eq_true, Bool.true_eq_false, Bool.cond_true_left, Bool.cond_false_right, cond_true, cond_false, reduceCtorEq, ↓reduceIte, true_and, and_true, and_self, not_false_eq_true, forall_const, false_implies, implies_true, imp_self, eq_self, ne_eq, Nat.reduceAdd, Nat.reduceEqDiff, Nat.zero_add, Nat.succ_ne_self, Nat.reduceLT])
          | refine And.intro (fun h => ?_) (fun h => ?_)
          | refine And.intro (by first | omega | (simp only [maxLen, decide_eq_true_eq, decide_eq_false_iff_not] at *; omega)) ?_
          | (refine TR.aslO rfl rfl rfl rfl trivial (Nat.le_of_ble_eq_true rfl) ?_
             try simp only [e5, e6, e7, hcond, ↓evSo_some, vcC_seq, vcC_reg, vcC_drw, vcC_skip, vcC_cond, vcC_block, vcC_exit, vcC_ret, vcC_bad, seqK_nrm, seqK_exit, seqK_ret, blkK_nrm, blkK_exit, blkK_ret, lopK_exit, lopK_ret, lopX_exit, lopX_ret, jmpK_nrm, jmpK_exit, jmpK_ret, nrmK_app, drwK_app, initE, vcR_nil, vcR_n, vcR_s, isCall, makes, hasU, slK, newOf, opR, binI, pickV, evS, evV, evX, evSs, evVs, evParts, evPartsS, fillV, catV, gOf, Go.Bx.get, Go.Bx.own?, cellsV, isCell, cut, cutD, nth, nthD, dropV, takeV, dropD, takeDV, putV, toDs, St.stp, Ef.stp, Stp.lg, lgs, setE, applyU, setO, delO, newN, keysO, callU, Ef.bad, Option.getD_some, Option.getD_none, Option.map_some, Option.map_none, List.all_cons, List.all_nil, List.map_cons, List.map_nil, List.append_nil, List.nil_append, List.cons_append, List.length_cons, List.length_nil, List.mem_cons, List.not_mem_nil, Bool.and_true, Bool.true_and, Bool.and_self, Bool.not_true, Bool.not_false, Bool.or_self, Bool.or_false, Bool.false_or, Bool.false_eq_true, Bool.true_eq_false, Bool.cond_true_left, Bool.cond_false_right, cond_true, cond_false, reduceCtorEq, ↓reduceIte, if_true, if_false, true_and, and_true, and_self, false_and, and_false, or_false, false_or, not_false_eq_true, not_true_eq_false, forall_const, true_implies, false_implies, implies_true, imp_self, eq_self, ne_eq, Nat.reduceAdd, Nat.reduceSub, Nat.reduceMul, Nat.reduceLeDiff, Nat.reduceEqDiff, Nat.zero_add, Nat.add_zero, Nat.le_refl, Nat.succ_ne_self, Nat.one_ne_zero, Nat.zero_ne_one, Int.toNat_natCast, litRow, List.drop_succ_cons, List.drop_zero, List.take_succ_cons, List.take_zero, pubE, pubV, pubL, pubO, pubFE, pubFV, pubFL, pubFO, delO, eqS, eqB, Nat.reduceLT, Nat.not_lt_zero, Nat.sub_zero, decide_true, decide_false, true_or, or_true, Int.le_refl, Int.cast_ofNat_Int, Int.reduceToNat, Int.reduceLT, Int.reduceLE, beq_self_eq_true, Nat.mul_one, Nat.one_mul, Nat.zero_mul])
          | refine And.intro rfl ?_
          | fail
      · have h' : 4000000000000000000 < q + 1 := by have := of_decide_eq_true h; omega
        (refine RetK.pure (by simp only [rs35, ressS, resS, and_self]) (VLe.tups ?_); simp only [ressV, resV, Go.Bx.get, ↓reduceIte, eq_self, Nat.succ_ne_self])
        rw [e, if_pos h']; exact ⟨VLe.refl _, VLe.refl _, trivial⟩
      · have h' : ¬ 4000000000000000000 < q + 1 := by have := of_decide_eq_false h; omega
        (refine RetK.pure (by simp only [rs35, ressS, resS, and_self]) (VLe.tups ?_); simp only [ressV, resV, Go.Bx.get, ↓reduceIte, eq_self, Nat.succ_ne_self])
        rw [e, if_neg h']; exact ⟨VLe.refl _, VLe.refl _, trivial⟩
    · have hu : upE q r K = false := by simpa using hu
      rw [hu] at hcond
      simp only [hu, Bool.false_eq_true, if_false, Nat.add_zero] at e
      repeat' first
          | (first
              | refine TR.p hP (by first | exact c23) (by repeat' first | exact trivial | (intro _; assumption) | apply And.intro) ?_
              | refine TR.gp hP rfl (fun _ => by first | exact c23) (fun _ => by repeat' first | exact trivial | (intro _; assumption) | apply And.intro) ?_
              | refine TR.pv hP rfl (by first | exact c23) trivial (by repeat' first | exact trivial | (intro _; assumption) | apply And.intro) ?_
             try simp only [e5, e6, e7, hcond, vcC_seq, vcC_reg, vcC_skip, vcC_cond, vcC_ret, seqK_nrm, seqK_ret, nrmK_app, vcR_nil, vcR_n, vcR_s, isCall, makes, hasU, newOf, opR, binI, pickV, evS, evV, evX, gOf, Go.Bx.get, nth, St.stp, Ef.stp, lgs, setE, applyU, newN, Option.getD_some, List.length_cons, List.length_nil, List.not_mem_nil, Bool.true_and, Bool.and_self, Bool.not_true, Bool.not_false, Bool.false_eq_true, Bool.cond_true_left, Bool.cond_false_right, cond_true, cond_false, reduceCtorEq, ↓reduceIte, true_and, and_true, and_self, not_false_eq_true, forall_const, false_implies, implies_true, imp_self, eq_self, ne_eq, Nat.reduceAdd, Nat.reduceEqDiff, Nat.zero_add, Nat.succ_ne_self, Nat.reduceLT])
          | refine And.intro (fun h => ?_) (fun h => ?_)
          | refine And.intro (by first | omega | (simp only [maxLen, decide_eq_true_eq, decide_eq_false_iff_not] at *; omega)) ?_
          | (refine TR.aslO rfl rfl rfl rfl trivial (Nat.le_of_ble_eq_true rfl) ?_
             try simp only [e5, e6, e7, hcond, ↓evSo_some, vcC_seq, vcC_reg, vcC_drw, vcC_skip, vcC_cond, vcC_block, vcC_exit, vcC_ret, vcC_bad, seqK_nrm, seqK_exit, seqK_ret, blkK_nrm, blkK_exit, blkK_ret, lopK_exit, lopK_ret, lopX_exit, lopX_ret, jmpK_nrm, jmpK_exit, jmpK_ret, nrmK_app, drwK_app, initE, vcR_nil, vcR_n, vcR_s, isCall, makes, hasU, slK, newOf, opR, binI, pickV, evS, evV, evX, evSs, evVs, evParts, evPartsS, fillV, catV, gOf, Go.Bx.get, Go.Bx.own?, cellsV, isCell, cut, cutD, nth, nthD, dropV, takeV, dropD, takeDV, putV, toDs, St.stp, Ef.stp, Stp.lg, lgs, setE, applyU, setO, delO, newN, keysO, callU, Ef.bad, Option.getD_some, Option.getD_none, Option.map_some, Option.map_none, List.all_cons, List.all_nil, List.map_cons, List.map_nil, List.append_nil, List.nil_append, List.cons_append, List.length_cons, List.length_nil, List.mem_cons, List.not_mem_nil, Bool.and_true, Bool.true_and, Bool.and_self, Bool.not_true, Bool.not_false, Bool.or_self, Bool.or_false, Bool.false_or, Bool.false_eq_true, Bool.true_eq_false, Bool.cond_true_left, Bool.cond_false_right, cond_true, cond_false, reduceCtorEq, ↓reduceIte, if_true, if_false, true_and, and_true, and_self, false_and, and_false, or_false, false_or, not_false_eq_true, not_true_eq_false, forall_const, true_implies, false_implies, implies_true, imp_self, eq_self, ne_eq, Nat.reduceAdd, Nat.reduceSub, Nat.reduceMul, Nat.reduceLeDiff, Nat.reduceEqDiff, Nat.zero_add, Nat.add_zero, Nat.le_refl, Nat.succ_ne_self, Nat.one_ne_zero, Nat.zero_ne_one, Int.toNat_natCast, litRow, List.drop_succ_cons, List.drop_zero, List.take_succ_cons, List.take_zero, pubE, pubV, pubL, pubO, pubFE, pubFV, pubFL, pubFO, delO, eqS, eqB, Nat.reduceLT, Nat.not_lt_zero, Nat.sub_zero, decide_true, decide_false, true_or, or_true, Int.le_refl, Int.cast_ofNat_Int, Int.reduceToNat, Int.reduceLT, Int.reduceLE, beq_self_eq_true, Nat.mul_one, Nat.one_mul, Nat.zero_mul])
          | refine And.intro rfl ?_
          | fail
      · exfalso; have := of_decide_eq_true h; omega
      · (refine RetK.pure (by simp only [rs35, ressS, resS, and_self]) (VLe.tups ?_); simp only [ressV, resV, Go.Bx.get, ↓reduceIte, eq_self, Nat.succ_ne_self])
        rw [e, if_neg h4]; exact ⟨VLe.refl _, VLe.refl _, trivial⟩
theorem rBp (a b : Int) (ha : a ≤ 9223372036854775807) (hb : b ≤ 9223372036854775807) :
    Ctr Try.prog 26 [.d (.int .i64 a), .d (.int .i64 b)] [] (.tup [.d (.int .i64 (bpR a b).1), .d (.int .i64 (bpR a b).2)]) [] [] := by
  refine pure26 (by simp) rfl rfl ?_; intro c hP hfn; simp only [c26, vcC_seq, vcC_reg, seqK_nrm, nrmK_app, initE, vcR_nil, vcR_n, isCall, makes, newOf, opR, evS, evV, evX, Go.Bx.get, St.stp, Ef.stp, lgs, setE, applyU, newN, Bool.false_eq_true, reduceCtorEq, ↓reduceIte, true_and, eq_self, Nat.reduceEqDiff, Nat.zero_add, Nat.zero_ne_one]
  repeat' first
      | (first
          | refine TR.p hP (by first | exact rEven a b 10000 ha hb (by omega)) (by repeat' first | exact trivial | (intro _; assumption) | apply And.intro) ?_
          | refine TR.gp hP rfl (fun _ => by first | exact rEven a b 10000 ha hb (by omega)) (fun _ => by repeat' first | exact trivial | (intro _; assumption) | apply And.intro) ?_
          | refine TR.pv hP rfl (by first | exact rEven a b 10000 ha hb (by omega)) trivial (by repeat' first | exact trivial | (intro _; assumption) | apply And.intro) ?_
         try simp only [vcC_ret, seqK_nrm, nrmK_app, vcR_nil, vcR_n, isCall, makes, newOf, opR, evS, evV, evX, Go.Bx.get, nth, St.stp, Ef.stp, lgs, setE, applyU, newN, List.length_cons, List.length_nil, Bool.false_eq_true, ↓reduceIte, true_and, and_self, eq_self, Nat.reduceAdd, Nat.reduceEqDiff, Nat.zero_add, Nat.succ_ne_self, Nat.reduceLT])
      | refine And.intro (fun h => ?_) (fun h => ?_)
      | refine And.intro (by first | omega | (simp only [maxLen, decide_eq_true_eq, decide_eq_false_iff_not] at *; omega)) ?_
      | (refine TR.aslO rfl rfl rfl rfl trivial (Nat.le_of_ble_eq_true rfl) ?_
         try simp only [↓evSo_some, vcC_seq, vcC_reg, vcC_drw, vcC_skip, vcC_cond, vcC_block, vcC_exit, vcC_ret, vcC_bad, seqK_nrm, seqK_exit, seqK_ret, blkK_nrm, blkK_exit, blkK_ret, lopK_exit, lopK_ret, lopX_exit, lopX_ret, jmpK_nrm, jmpK_exit, jmpK_ret, nrmK_app, drwK_app, initE, vcR_nil, vcR_n, vcR_s, isCall, makes, hasU, slK, newOf, opR, binI, pickV, evS, evV, evX, evSs, evVs, evParts, evPartsS, fillV, catV, gOf, Go.Bx.get, Go.Bx.own?, cellsV, isCell, cut, cutD, nth, nthD, dropV, takeV, dropD, takeDV, putV, toDs, St.stp, Ef.stp, Stp.lg, lgs, setE, applyU, setO, delO, newN, keysO, callU, Ef.bad, Option.getD_some, Option.getD_none, Option.map_some, Option.map_none, List.all_cons, List.all_nil, List.map_cons, List.map_nil, List.append_nil, List.nil_append, List.cons_append, List.length_cons, List.length_nil, List.mem_cons, List.not_mem_nil, Bool.and_true, Bool.true_and, Bool.and_self, Bool.not_true, Bool.not_false, Bool.or_self, Bool.or_false, Bool.false_or, Bool.false_eq_true, Bool.true_eq_false, Bool.cond_true_left, Bool.cond_false_right, cond_true, cond_false, reduceCtorEq, ↓reduceIte, if_true, if_false, true_and, and_true, and_self, false_and, and_false, or_false, false_or, not_false_eq_true, not_true_eq_false, forall_const, true_implies, false_implies, implies_true, imp_self, eq_self, ne_eq, Nat.reduceAdd, Nat.reduceSub, Nat.reduceMul, Nat.reduceLeDiff, Nat.reduceEqDiff, Nat.zero_add, Nat.add_zero, Nat.le_refl, Nat.succ_ne_self, Nat.one_ne_zero, Nat.zero_ne_one, Int.toNat_natCast, litRow, List.drop_succ_cons, List.drop_zero, List.take_succ_cons, List.take_zero, pubE, pubV, pubL, pubO, pubFE, pubFV, pubFL, pubFO, delO, eqS, eqB, Nat.reduceLT, Nat.not_lt_zero, Nat.sub_zero, decide_true, decide_false, true_or, or_true, Int.le_refl, Int.cast_ofNat_Int, Int.reduceToNat, Int.reduceLT, Int.reduceLE, beq_self_eq_true, Nat.mul_one, Nat.one_mul, Nat.zero_mul])
      | refine And.intro rfl ?_
      | fail
  (refine RetK.pure (by simp only [rs26, ressS, resS, and_self]) (VLe.tups ?_); simp only [ressV, resV, Go.Bx.get, ↓reduceIte, eq_self, Nat.succ_ne_self])
  exact ⟨VLe.refl _, VLe.refl _, trivial⟩

end Go.Proofs.Ytkcfgdafhfllgaa
