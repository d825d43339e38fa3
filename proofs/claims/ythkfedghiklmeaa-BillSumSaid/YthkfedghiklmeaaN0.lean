import Derived.Test.YthkfedghiklmeaaCode
import Derived.Lib.Mul64
namespace Go.Proofs.Ythkfedghiklmeaa
open Go.Bx
set_option maxRecDepth 10000

/-! Words of 64 bits, halves, bits. -/
theorem wU {a : Int} (h : 0 ≤ a ∧ a ≤ 18446744073709551615) : IntKind.u64.wrap a = a := by rw [IntKind.wrap_u64]; omega
theorem wU_mod (a : Int) : IntKind.u64.wrap a = a % 18446744073709551616 := IntKind.wrap_u64 a
def andU (a b : Int) : Int := IntKind.u64.wrap ((BitVec.ofInt IntKind.u64.bits a &&& BitVec.ofInt IntKind.u64.bits b).toNat : Int)
theorem andU_mask (x : Nat) (hx : x < 18446744073709551616) : andU (x : Int) 4294967295 = ((x % 4294967296 : Nat) : Int) := by
  have h1 : (BitVec.ofInt IntKind.u64.bits (x : Int) &&& BitVec.ofInt IntKind.u64.bits 4294967295).toNat = x % 4294967296 := by
    rw [BitVec.toNat_and]
    have e1 : (BitVec.ofInt IntKind.u64.bits (x : Int)).toNat = x := by
      simp [IntKind.bits]; omega
    have e2 : (BitVec.ofInt IntKind.u64.bits 4294967295).toNat = 2 ^ 32 - 1 := by decide +kernel
    rw [e1, e2, Nat.and_two_pow_sub_one_eq_mod]
  rw [andU, h1, wU (by omega)]
def orU (a b : Int) : Int := IntKind.u64.wrap ((BitVec.ofInt IntKind.u64.bits a ||| BitVec.ofInt IntKind.u64.bits b).toNat : Int)
theorem orU_add (a i b : Nat) (h1 : a * 2 ^ i < 18446744073709551616) (h2 : b < 2 ^ i) (h3 : b < 18446744073709551616) : orU ((a * 2 ^ i : Nat) : Int) (b : Int) = ((a * 2 ^ i + b : Nat) : Int) := by
  have e0 : ∀ x : Nat, x < 18446744073709551616 → (BitVec.ofInt IntKind.u64.bits (x : Int)).toNat = x := fun x hx => by simp [IntKind.bits]; omega
  have h4 : (BitVec.ofInt IntKind.u64.bits ((a * 2 ^ i : Nat) : Int) ||| BitVec.ofInt IntKind.u64.bits (b : Int)).toNat = a * 2 ^ i + b := by
    rw [BitVec.toNat_or, e0 _ h1, e0 _ h3, ← Nat.shiftLeft_eq, Nat.shiftLeft_add_eq_or_of_lt h2]
  have h5 : a * 2 ^ i + b < 18446744073709551616 := by
    rw [← h4]; exact (BitVec.ofInt IntKind.u64.bits ((a * 2 ^ i : Nat) : Int) ||| BitVec.ofInt IntKind.u64.bits (b : Int)).isLt
  rw [orU, h4, wU (by omega)]
theorem fdiv_nat (a b : Nat) : (a : Int).fdiv (b : Int) = ((a / b : Nat) : Int) := by
  cases b with
  | zero => simp
  | succ b => rw [Int.fdiv_eq_ediv_of_nonneg _ (by omega)]; simp
theorem tdiv_nat (a b : Nat) : (a : Int).tdiv (b : Int) = ((a / b : Nat) : Int) := by
  rw [Int.tdiv_eq_ediv_of_nonneg (by omega)]; simp
theorem tmod_nat (a b : Nat) : (a : Int).tmod (b : Int) = ((a % b : Nat) : Int) := by
  rw [Int.tmod_eq_emod_of_nonneg (by omega)]; simp

/-! How many bits a number has. -/
def blen (x : Nat) : Nat := if x = 0 then 0 else Nat.log2 x + 1
theorem blen_eq {x n : Nat} (h1 : 2 ^ n ≤ x) (h2 : x < 2 ^ (n + 1)) : blen x = n + 1 := by
  have hx : x ≠ 0 := fun e => by have := Nat.two_pow_pos n; omega
  rw [blen, if_neg hx, (Nat.log2_eq_iff hx).2 ⟨h1, h2⟩]
theorem blen_spec {x : Nat} (h : x ≠ 0) : ∃ n, blen x = n + 1 ∧ 2 ^ n ≤ x ∧ x < 2 ^ (n + 1) :=
  ⟨Nat.log2 x, by rw [blen, if_neg h], ((Nat.log2_eq_iff h).1 rfl).1, ((Nat.log2_eq_iff h).1 rfl).2⟩
theorem blen_shift {x k : Nat} (h : 2 ^ k ≤ x) : blen x = blen (x / 2 ^ k) + k := by
  have h0 : 0 < x / 2 ^ k := Nat.div_pos h (Nat.two_pow_pos k)
  obtain ⟨n, h1, h2, h3⟩ := blen_spec (x := x / 2 ^ k) (by omega)
  rw [h1]
  have h4 : 2 ^ n * 2 ^ k ≤ x := (Nat.le_div_iff_mul_le (Nat.two_pow_pos k)).1 h2
  have h5 : x < 2 ^ (n + 1) * 2 ^ k := (Nat.div_lt_iff_lt_mul (Nat.two_pow_pos k)).1 h3
  rw [← Nat.pow_add] at h4 h5
  rw [blen_eq (n := n + k) h4 (by rw [show n + k + 1 = n + 1 + k by omega]; exact h5)]
  omega
theorem wUn (n : Nat) : IntKind.u64.wrap (n : Int) = ((n % 18446744073709551616 : Nat) : Int) := by rw [IntKind.wrap_u64]; omega
theorem andN (x : Nat) : (BitVec.ofInt IntKind.u64.bits (x : Int) &&& BitVec.ofInt IntKind.u64.bits 4294967295).toNat = x % 4294967296 := by
  rw [BitVec.toNat_and]
  have e1 : (BitVec.ofInt IntKind.u64.bits (x : Int)).toNat = x % 18446744073709551616 := by
    simp [IntKind.bits]
  have e2 : (BitVec.ofInt IntKind.u64.bits 4294967295).toNat = 2 ^ 32 - 1 := by decide +kernel
  rw [e1, e2, Nat.and_two_pow_sub_one_eq_mod]; omega
theorem p32 : (2 : Int) ^ min 32 IntKind.u64.bits = 4294967296 := by decide +kernel
theorem fdivL (n : Nat) : (n : Int).fdiv 4294967296 = ((n / 4294967296 : Nat) : Int) := fdiv_nat n 4294967296
theorem p16 : (2 : Int) ^ min 16 IntKind.u64.bits = 65536 := by decide +kernel
theorem p8 : (2 : Int) ^ min 8 IntKind.u64.bits = 256 := by decide +kernel
theorem fdivM (n : Nat) : (n : Int).fdiv 65536 = ((n / 65536 : Nat) : Int) := fdiv_nat n 65536
theorem fdivS (n : Nat) : (n : Int).fdiv 256 = ((n / 256 : Nat) : Int) := fdiv_nat n 256
theorem mulL (n : Nat) : (4294967296 : Int) * (n : Int) = ((4294967296 * n : Nat) : Int) := by omega
theorem mulR (n : Nat) : (n : Int) * 4294967296 = ((n * 4294967296 : Nat) : Int) := by omega
theorem sMul64 (x y : Nat) (hx : x < 18446744073709551616) (hy : y < 18446744073709551616) : Ctr Try.prog 59 [.d (.int .u64 x), .d (.int .u64 y)] [] (.tup [.d (.int .u64 ((x * y / 18446744073709551616 : Nat) : Int)), .d (.int .u64 ((x * y % 18446744073709551616 : Nat) : Int))]) [] [] := by
  refine pure59 (by simp) rfl rfl ?_; intro c hP hfn; simp only [c59, andN, p32, fdivL, ← Int.natCast_mul, ← Int.natCast_add, wUn, vcC_seq, vcC_reg, vcC_ret, seqK_nrm, nrmK_app, initE, vcR_nil, vcR_n, isCall, makes, newOf, opR, binI, evS, evV, evX, Go.Bx.get, St.stp, Ef.stp, lgs, setE, applyU, newN, Bool.false_eq_true, reduceCtorEq, ↓reduceIte, true_and, and_self, eq_self, Nat.reduceEqDiff, Nat.zero_add, Nat.succ_ne_self, Nat.zero_ne_one, Int.reduceToNat, Int.reduceLE]
  have hm := Go.Lib.mul64_hi x y hx hy
  have ha := Go.Lib.half_mul_le (a := x / 4294967296) (b := y / 4294967296) (by omega) (by omega)
  have hb := Go.Lib.half_mul_le (a := x / 4294967296) (b := y % 4294967296) (by omega) (by omega)
  have hc := Go.Lib.half_mul_le (a := x % 4294967296) (b := y / 4294967296) (by omega) (by omega)
  have hd := Go.Lib.half_mul_le (a := x % 4294967296) (b := y % 4294967296) (by omega) (by omega)
  (refine RetK.pure (by simp only [rs59, ressS, resS, and_self]) (VLe.tups ?_); simp only [ressV, resV, Go.Bx.get, ↓reduceIte, eq_self, Nat.reduceEqDiff, Nat.succ_ne_self])
  refine ⟨VLe.int (congrArg Int.ofNat ?_), VLe.int rfl, trivial⟩
  have e1 : x % 4294967296 % 18446744073709551616 = x % 4294967296 := by omega
  have e2 : y % 4294967296 % 18446744073709551616 = y % 4294967296 := by omega
  rw [e1, e2]
  generalize (x / 4294967296) * (y / 4294967296) = a at *
  generalize (x / 4294967296) * (y % 4294967296) = b at *
  generalize (x % 4294967296) * (y / 4294967296) = c at *
  generalize (x % 4294967296) * (y % 4294967296) = d at *
  generalize x * y / 18446744073709551616 = z at *
  omega

/-- The lengths of bytes, as the library's text has them. -/
def tab : ByteArray := ⟨#[0, 1, 2, 2, 3, 3, 3, 3, 4, 4, 4, 4, 4, 4, 4, 4, 5, 5, 5, 5, 5, 5, 5, 5, 5, 5, 5, 5, 5, 5, 5, 5, 6, 6, 6, 6, 6, 6, 6, 6, 6, 6, 6, 6, 6, 6, 6, 6, 6, 6, 6, 6, 6, 6, 6, 6, 6, 6, 6, 6, 6, 6, 6, 6, 7, 7, 7, 7, 7, 7, 7, 7, 7, 7, 7, 7, 7, 7, 7, 7, 7, 7, 7, 7, 7, 7, 7, 7, 7, 7, 7, 7, 7, 7, 7, 7, 7, 7, 7, 7, 7, 7, 7, 7, 7, 7, 7, 7, 7, 7, 7, 7, 7, 7, 7, 7, 7, 7, 7, 7, 7, 7, 7, 7, 7, 7, 7, 7, 8, 8, 8, 8, 8, 8, 8, 8, 8, 8, 8, 8, 8, 8, 8, 8, 8, 8, 8, 8, 8, 8, 8, 8, 8, 8, 8, 8, 8, 8, 8, 8, 8, 8, 8, 8, 8, 8, 8, 8, 8, 8, 8, 8, 8, 8, 8, 8, 8, 8, 8, 8, 8, 8, 8, 8, 8, 8, 8, 8, 8, 8, 8, 8, 8, 8, 8, 8, 8, 8, 8, 8, 8, 8, 8, 8, 8, 8, 8, 8, 8, 8, 8, 8, 8, 8, 8, 8, 8, 8, 8, 8, 8, 8, 8, 8, 8, 8, 8, 8, 8, 8, 8, 8, 8, 8, 8, 8, 8, 8, 8, 8, 8, 8, 8, 8, 8, 8, 8, 8, 8, 8, 8, 8, 8, 8, 8, 8]⟩
theorem tab_ok : ∀ z : Nat, z < 256 → sAt tab z = ((blen z : Nat) : Int) := by
  have h : ((List.range 256).all fun z => sAt tab z == ((blen z : Nat) : Int)) = true := by decide +kernel
  intro z hz
  exact eq_of_beq (List.all_eq_true.1 h z (by simpa using hz))
theorem u8n {z : Nat} (h : z < 256) : IntKind.u8.wrap (z : Int) = (z : Int) := by rw [IntKind.wrap_u8]; omega
theorem blen_256 {z : Nat} (h : z < 256) : blen z ≤ 8 := by
  by_cases h0 : z = 0
  · subst h0; simp [blen]
  · obtain ⟨n, h1, h2, h3⟩ := blen_spec h0
    rw [h1]
    have : n < 8 := (Nat.pow_lt_pow_iff_right (show 1 < 2 by omega)).1 (show 2 ^ n < 2 ^ 8 by omega)
    omega
theorem sLen64 (x : Nat) (hx : x < 18446744073709551616) : Ctr Try.prog 63 [.d (.int .u64 x)] [] (.d (.int .i64 ((blen x : Nat) : Int))) [] [] := by
  refine pure63 (by simp) rfl rfl ?_; intro c hP hfn; simp only [c63, p32, p16, p8, fdivL, fdivM, fdivS, vcC_seq, vcC_reg, vcC_skip, vcC_cond, vcC_ret, seqK_nrm, nrmK_app, initE, vcR_nil, vcR_n, isCall, makes, newOf, opR, binI, evS, evV, evX, Go.Bx.get, St.stp, Ef.stp, lgs, setE, applyU, newN, Bool.false_eq_true, reduceCtorEq, ↓reduceIte, true_and, and_self, eq_self, Nat.reduceEqDiff, Nat.succ_ne_self, Int.reduceToNat, Int.reduceLE]
  repeat' first
      | (first
          | refine TR.p hP (by first | fail) (by repeat' first | exact trivial | (intro _; assumption) | apply And.intro) ?_
          | refine TR.gp hP rfl (fun _ => by first | fail) (fun _ => by repeat' first | exact trivial | (intro _; assumption) | apply And.intro) ?_
          | refine TR.pv hP rfl (by first | fail) trivial (by repeat' first | exact trivial | (intro _; assumption) | apply And.intro) ?_
         try simp only [p32, p16, p8, fdivL, fdivM, fdivS, ← Int.natCast_mul, ← Int.natCast_add, wUn, ↓evSo_some, vcC_seq, vcC_reg, vcC_drw, vcC_skip, vcC_cond, vcC_block, vcC_exit, vcC_ret, vcC_bad, seqK_nrm, seqK_exit, seqK_ret, blkK_nrm, blkK_exit, blkK_ret, lopK_exit, lopK_ret, lopX_exit, lopX_ret, jmpK_nrm, jmpK_exit, jmpK_ret, nrmK_app, drwK_app, initE, vcR_nil, vcR_n, vcR_s, isCall, makes, hasU, slK, newOf, opR, binI, pickV, evS, evV, evX, evSs, evVs, evParts, evPartsS, fillV, catV, gOf, Go.Bx.get, Go.Bx.own?, cellsV, isCell, cut, cutD, nth, nthD, dropV, takeV, dropD, takeDV, putV, toDs, St.stp, Ef.stp, Stp.lg, lgs, setE, applyU, setO, delO, newN, keysO, callU, Ef.bad, Option.getD_some, Option.getD_none, Option.map_some, Option.map_none, List.all_cons, List.all_nil, List.map_cons, List.map_nil, List.append_nil, List.nil_append, List.cons_append, List.length_cons, List.length_nil, List.mem_cons, List.not_mem_nil, Bool.and_true, Bool.true_and, Bool.and_self, Bool.not_true, Bool.not_false, Bool.or_self, Bool.or_false, Bool.false_or, Bool.false_eq_true, Bool.true_eq_false, Bool.cond_true_left, Bool.cond_false_right, cond_true, cond_false, reduceCtorEq, ↓reduceIte, if_true, if_false, true_and, and_true, and_self, false_and, and_false, or_false, false_or, not_false_eq_true, not_true_eq_false, forall_const, true_implies, false_implies, implies_true, imp_self, eq_self, ne_eq, Nat.reduceAdd, Nat.reduceSub, Nat.reduceMul, Nat.reduceMod, Nat.reduceLeDiff, Nat.reduceEqDiff, Nat.zero_add, Nat.add_zero, Nat.le_refl, Nat.succ_ne_self, Nat.one_ne_zero, Nat.zero_ne_one, Int.toNat_natCast, litRow, List.drop_succ_cons, List.drop_zero, List.take_succ_cons, List.take_zero, pubE, pubV, pubL, pubO, pubFE, pubFV, pubFL, pubFO, delO, eqS, eqB, Nat.reduceLT, Nat.not_lt_zero, Nat.sub_zero, decide_true, decide_false, true_or, or_true, Int.le_refl, Int.cast_ofNat_Int, Int.reduceToNat, Int.reduceLT, Int.reduceLE, beq_self_eq_true, Nat.mul_one, Nat.one_mul, Nat.zero_mul])
      | refine And.intro (fun h => ?_) (fun h => ?_)
      | refine And.intro (by first | omega | (simp only [decide_eq_true_eq, decide_eq_false_iff_not] at *; omega)) ?_
      | (refine TR.aslO rfl rfl rfl rfl trivial (Nat.le_of_ble_eq_true rfl) ?_
         try simp only [p32, p16, p8, fdivL, fdivM, fdivS, ← Int.natCast_mul, ← Int.natCast_add, wUn, ↓evSo_some, vcC_seq, vcC_reg, vcC_drw, vcC_skip, vcC_cond, vcC_block, vcC_exit, vcC_ret, vcC_bad, seqK_nrm, seqK_exit, seqK_ret, blkK_nrm, blkK_exit, blkK_ret, lopK_exit, lopK_ret, lopX_exit, lopX_ret, jmpK_nrm, jmpK_exit, jmpK_ret, nrmK_app, drwK_app, initE, vcR_nil, vcR_n, vcR_s, isCall, makes, hasU, slK, newOf, opR, binI, pickV, evS, evV, evX, evSs, evVs, evParts, evPartsS, fillV, catV, gOf, Go.Bx.get, Go.Bx.own?, cellsV, isCell, cut, cutD, nth, nthD, dropV, takeV, dropD, takeDV, putV, toDs, St.stp, Ef.stp, Stp.lg, lgs, setE, applyU, setO, delO, newN, keysO, callU, Ef.bad, Option.getD_some, Option.getD_none, Option.map_some, Option.map_none, List.all_cons, List.all_nil, List.map_cons, List.map_nil, List.append_nil, List.nil_append, List.cons_append, List.length_cons, List.length_nil, List.mem_cons, List.not_mem_nil, Bool.and_true, Bool.true_and, Bool.and_self, Bool.not_true, Bool.not_false, Bool.or_self, Bool.or_false, Bool.false_or, Bool.false_eq_true, Bool.true_eq_false, Bool.cond_true_left, Bool.cond_false_right, cond_true, cond_false, reduceCtorEq, ↓reduceIte, if_true, if_false, true_and, and_true, and_self, false_and, and_false, or_false, false_or, not_false_eq_true, not_true_eq_false, forall_const, true_implies, false_implies, implies_true, imp_self, eq_self, ne_eq, Nat.reduceAdd, Nat.reduceSub, Nat.reduceMul, Nat.reduceMod, Nat.reduceLeDiff, Nat.reduceEqDiff, Nat.zero_add, Nat.add_zero, Nat.le_refl, Nat.succ_ne_self, Nat.one_ne_zero, Nat.zero_ne_one, Int.toNat_natCast, litRow, List.drop_succ_cons, List.drop_zero, List.take_succ_cons, List.take_zero, pubE, pubV, pubL, pubO, pubFE, pubFV, pubFL, pubFO, delO, eqS, eqB, Nat.reduceLT, Nat.not_lt_zero, Nat.sub_zero, decide_true, decide_false, true_or, or_true, Int.le_refl, Int.cast_ofNat_Int, Int.reduceToNat, Int.reduceLT, Int.reduceLE, beq_self_eq_true, Nat.mul_one, Nat.one_mul, Nat.zero_mul])
      | refine And.intro trivial ?_
      | refine And.intro rfl ?_
      | fail
  · simp only [ge_iff_le, decide_eq_true_eq] at *
    have hz : x / 4294967296 / 65536 / 256 < 256 := by omega
    have q32 := blen_shift (x := x) (k := 32) (by omega)
    rw [show (2 : Nat) ^ 32 = 4294967296 from rfl] at q32
    have q16 := blen_shift (x := x / 4294967296) (k := 16) (by omega)
    rw [show (2 : Nat) ^ 16 = 65536 from rfl] at q16
    have q8 := blen_shift (x := x / 4294967296 / 65536) (k := 8) (by omega)
    rw [show (2 : Nat) ^ 8 = 256 from rfl] at q8
    have e := u8n hz
    have et := tab_ok _ hz
    have hb := blen_256 hz
    rw [e]
    refine And.intro ⟨by omega, (show (((x / 4294967296 / 65536 / 256 : Nat) : Int) < 256) by omega)⟩ ?_
    exact RetK.pure (by simp only [rs63, ressS, resS, and_self, Int.toNat_natCast]) (by (simp only [rs63, retV, resV, Go.Bx.get, ↓reduceIte, eq_self, Int.toNat_natCast, VLe_int, Go.Bx.get, ↓reduceIte, eq_self, Int.toNat_natCast]) <;> (first | (change IntKind.i64.wrap (_ + IntKind.i64.wrap (sAt tab (x / 4294967296 / 65536 / 256))) = _; rw [et, wI (a := ((blen (x / 4294967296 / 65536 / 256) : Nat) : Int)) (by omega)]; rw [q32, q16, q8]; generalize blen (x / 4294967296 / 65536 / 256) = w at *; simp only [IntKind.wrap_i64]; omega)))
  · simp only [ge_iff_le, decide_eq_true_eq, decide_eq_false_iff_not, Int.not_le] at *
    have hz : x / 4294967296 / 65536 < 256 := by omega
    have q32 := blen_shift (x := x) (k := 32) (by omega)
    rw [show (2 : Nat) ^ 32 = 4294967296 from rfl] at q32
    have q16 := blen_shift (x := x / 4294967296) (k := 16) (by omega)
    rw [show (2 : Nat) ^ 16 = 65536 from rfl] at q16
    have e := u8n hz
    have et := tab_ok _ hz
    have hb := blen_256 hz
    rw [e]
    refine And.intro ⟨by omega, (show (((x / 4294967296 / 65536 : Nat) : Int) < 256) by omega)⟩ ?_
    exact RetK.pure (by simp only [rs63, ressS, resS, and_self, Int.toNat_natCast]) (by (simp only [rs63, retV, resV, Go.Bx.get, ↓reduceIte, eq_self, Int.toNat_natCast, VLe_int, Go.Bx.get, ↓reduceIte, eq_self, Int.toNat_natCast]) <;> (first | (change IntKind.i64.wrap (_ + IntKind.i64.wrap (sAt tab (x / 4294967296 / 65536))) = _; rw [et, wI (a := ((blen (x / 4294967296 / 65536) : Nat) : Int)) (by omega)]; rw [q32, q16]; generalize blen (x / 4294967296 / 65536) = w at *; simp only [IntKind.wrap_i64]; omega)))
  · simp only [ge_iff_le, decide_eq_true_eq, decide_eq_false_iff_not, Int.not_le] at *
    have hz : x / 4294967296 / 256 < 256 := by omega
    have q32 := blen_shift (x := x) (k := 32) (by omega)
    rw [show (2 : Nat) ^ 32 = 4294967296 from rfl] at q32
    have q8 := blen_shift (x := x / 4294967296) (k := 8) (by omega)
    rw [show (2 : Nat) ^ 8 = 256 from rfl] at q8
    have e := u8n hz
    have et := tab_ok _ hz
    have hb := blen_256 hz
    rw [e]
    refine And.intro ⟨by omega, (show (((x / 4294967296 / 256 : Nat) : Int) < 256) by omega)⟩ ?_
    exact RetK.pure (by simp only [rs63, ressS, resS, and_self, Int.toNat_natCast]) (by (simp only [rs63, retV, resV, Go.Bx.get, ↓reduceIte, eq_self, Int.toNat_natCast, VLe_int, Go.Bx.get, ↓reduceIte, eq_self, Int.toNat_natCast]) <;> (first | (change IntKind.i64.wrap (_ + IntKind.i64.wrap (sAt tab (x / 4294967296 / 256))) = _; rw [et, wI (a := ((blen (x / 4294967296 / 256) : Nat) : Int)) (by omega)]; rw [q32, q8]; generalize blen (x / 4294967296 / 256) = w at *; simp only [IntKind.wrap_i64]; omega)))
  · simp only [ge_iff_le, decide_eq_true_eq, decide_eq_false_iff_not, Int.not_le] at *
    have hz : x / 4294967296 < 256 := by omega
    have q32 := blen_shift (x := x) (k := 32) (by omega)
    rw [show (2 : Nat) ^ 32 = 4294967296 from rfl] at q32
    have e := u8n hz
    have et := tab_ok _ hz
    have hb := blen_256 hz
    rw [e]
    refine And.intro ⟨by omega, (show (((x / 4294967296 : Nat) : Int) < 256) by omega)⟩ ?_
    exact RetK.pure (by simp only [rs63, ressS, resS, and_self, Int.toNat_natCast]) (by (simp only [rs63, retV, resV, Go.Bx.get, ↓reduceIte, eq_self, Int.toNat_natCast, VLe_int, Go.Bx.get, ↓reduceIte, eq_self, Int.toNat_natCast]) <;> (first | (change IntKind.i64.wrap (_ + IntKind.i64.wrap (sAt tab (x / 4294967296))) = _; rw [et, wI (a := ((blen (x / 4294967296) : Nat) : Int)) (by omega)]; rw [q32]; generalize blen (x / 4294967296) = w at *; simp only [IntKind.wrap_i64]; omega)))
  · simp only [ge_iff_le, decide_eq_true_eq, decide_eq_false_iff_not, Int.not_le] at *
    have hz : x / 65536 / 256 < 256 := by omega
    have q16 := blen_shift (x := x) (k := 16) (by omega)
    rw [show (2 : Nat) ^ 16 = 65536 from rfl] at q16
    have q8 := blen_shift (x := x / 65536) (k := 8) (by omega)
    rw [show (2 : Nat) ^ 8 = 256 from rfl] at q8
    have e := u8n hz
    have et := tab_ok _ hz
    have hb := blen_256 hz
    rw [e]
    refine And.intro ⟨by omega, (show (((x / 65536 / 256 : Nat) : Int) < 256) by omega)⟩ ?_
    exact RetK.pure (by simp only [rs63, ressS, resS, and_self, Int.toNat_natCast]) (by (simp only [rs63, retV, resV, Go.Bx.get, ↓reduceIte, eq_self, Int.toNat_natCast, VLe_int, Go.Bx.get, ↓reduceIte, eq_self, Int.toNat_natCast]) <;> (first | (change IntKind.i64.wrap (_ + IntKind.i64.wrap (sAt tab (x / 65536 / 256))) = _; rw [et, wI (a := ((blen (x / 65536 / 256) : Nat) : Int)) (by omega)]; rw [q16, q8]; generalize blen (x / 65536 / 256) = w at *; simp only [IntKind.wrap_i64]; omega)))
  · simp only [ge_iff_le, decide_eq_true_eq, decide_eq_false_iff_not, Int.not_le] at *
    have hz : x / 65536 < 256 := by omega
    have q16 := blen_shift (x := x) (k := 16) (by omega)
    rw [show (2 : Nat) ^ 16 = 65536 from rfl] at q16
    have e := u8n hz
    have et := tab_ok _ hz
    have hb := blen_256 hz
    rw [e]
    refine And.intro ⟨by omega, (show (((x / 65536 : Nat) : Int) < 256) by omega)⟩ ?_
    exact RetK.pure (by simp only [rs63, ressS, resS, and_self, Int.toNat_natCast]) (by (simp only [rs63, retV, resV, Go.Bx.get, ↓reduceIte, eq_self, Int.toNat_natCast, VLe_int, Go.Bx.get, ↓reduceIte, eq_self, Int.toNat_natCast]) <;> (first | (change IntKind.i64.wrap (_ + IntKind.i64.wrap (sAt tab (x / 65536))) = _; rw [et, wI (a := ((blen (x / 65536) : Nat) : Int)) (by omega)]; rw [q16]; generalize blen (x / 65536) = w at *; simp only [IntKind.wrap_i64]; omega)))
  · simp only [ge_iff_le, decide_eq_true_eq, decide_eq_false_iff_not, Int.not_le] at *
    have hz : x / 256 < 256 := by omega
    have q8 := blen_shift (x := x) (k := 8) (by omega)
    rw [show (2 : Nat) ^ 8 = 256 from rfl] at q8
    have e := u8n hz
    have et := tab_ok _ hz
    have hb := blen_256 hz
    rw [e]
    refine And.intro ⟨by omega, (show (((x / 256 : Nat) : Int) < 256) by omega)⟩ ?_
    exact RetK.pure (by simp only [rs63, ressS, resS, and_self, Int.toNat_natCast]) (by (simp only [rs63, retV, resV, Go.Bx.get, ↓reduceIte, eq_self, Int.toNat_natCast, VLe_int, Go.Bx.get, ↓reduceIte, eq_self, Int.toNat_natCast]) <;> (first | (change IntKind.i64.wrap (_ + IntKind.i64.wrap (sAt tab (x / 256))) = _; rw [et, wI (a := ((blen (x / 256) : Nat) : Int)) (by omega)]; rw [q8]; generalize blen (x / 256) = w at *; simp only [IntKind.wrap_i64]; omega)))
  · simp only [ge_iff_le, decide_eq_false_iff_not, Int.not_le] at *
    have hz : x < 256 := by omega
    have e := u8n hz
    have et := tab_ok _ hz
    have hb := blen_256 hz
    rw [e]
    refine And.intro ⟨by omega, (show (((x : Nat) : Int) < 256) by omega)⟩ ?_
    exact RetK.pure (by simp only [rs63, ressS, resS, and_self, Int.toNat_natCast]) (by (simp only [rs63, retV, resV, Go.Bx.get, ↓reduceIte, eq_self, Int.toNat_natCast, VLe_int, Go.Bx.get, ↓reduceIte, eq_self, Int.toNat_natCast]) <;> (first | (change IntKind.i64.wrap (_ + IntKind.i64.wrap (sAt tab (x))) = _; rw [et, wI (a := ((blen (x) : Nat) : Int)) (by omega)]; generalize blen (x) = w at *; simp only [IntKind.wrap_i64]; omega)))
theorem sLZ (x : Nat) (hx : x < 18446744073709551616) : Ctr Try.prog 62 [.d (.int .u64 x)] [] (.d (.int .i64 ((64 - blen x : Nat) : Int))) [] [] := by
  have hb : blen x ≤ 64 := by
    by_cases h0 : x = 0
    · subst h0; simp [blen]
    · obtain ⟨n, h1, h2, h3⟩ := blen_spec h0
      rw [h1]
      have : n < 64 := (Nat.pow_lt_pow_iff_right (show 1 < 2 by omega)).1 (show 2 ^ n < 2 ^ 64 by omega)
      omega
  refine pure62 (by simp) rfl rfl ?_; intro c hP hfn; simp only [c62, vcC_seq, vcC_reg, seqK_nrm, nrmK_app, initE, vcR_nil, vcR_n, isCall, makes, newOf, opR, evS, evV, evX, Go.Bx.get, St.stp, Ef.stp, lgs, setE, applyU, newN, Bool.false_eq_true, reduceCtorEq, ↓reduceIte, true_and, eq_self]
  repeat' first
      | (first
          | refine TR.p hP (by first | exact sLen64 x hx) (by repeat' first | exact trivial | (intro _; assumption) | apply And.intro) ?_
          | refine TR.gp hP rfl (fun _ => by first | exact sLen64 x hx) (fun _ => by repeat' first | exact trivial | (intro _; assumption) | apply And.intro) ?_
          | refine TR.pv hP rfl (by first | exact sLen64 x hx) trivial (by repeat' first | exact trivial | (intro _; assumption) | apply And.intro) ?_
         try simp only [vcC_ret, seqK_nrm, nrmK_app, vcR_nil, vcR_n, isCall, makes, newOf, opR, binI, evS, evV, evX, Go.Bx.get, St.stp, Ef.stp, lgs, setE, applyU, newN, Bool.false_eq_true, ↓reduceIte, true_and, and_self, eq_self])
      | refine And.intro (fun h => ?_) (fun h => ?_)
      | refine And.intro (by first | omega | (simp only [maxLen, decide_eq_true_eq, decide_eq_false_iff_not] at *; omega)) ?_
      | (refine TR.aslO rfl rfl rfl rfl trivial (Nat.le_of_ble_eq_true rfl) ?_
         try simp only [↓evSo_some, vcC_seq, vcC_reg, vcC_drw, vcC_skip, vcC_cond, vcC_block, vcC_exit, vcC_ret, vcC_bad, seqK_nrm, seqK_exit, seqK_ret, blkK_nrm, blkK_exit, blkK_ret, lopK_exit, lopK_ret, lopX_exit, lopX_ret, jmpK_nrm, jmpK_exit, jmpK_ret, nrmK_app, drwK_app, initE, vcR_nil, vcR_n, vcR_s, isCall, makes, hasU, slK, newOf, opR, binI, pickV, evS, evV, evX, evSs, evVs, evParts, evPartsS, fillV, catV, gOf, Go.Bx.get, Go.Bx.own?, cellsV, isCell, cut, cutD, nth, nthD, dropV, takeV, dropD, takeDV, putV, toDs, St.stp, Ef.stp, Stp.lg, lgs, setE, applyU, setO, delO, newN, keysO, callU, Ef.bad, Option.getD_some, Option.getD_none, Option.map_some, Option.map_none, List.all_cons, List.all_nil, List.map_cons, List.map_nil, List.append_nil, List.nil_append, List.cons_append, List.length_cons, List.length_nil, List.mem_cons, List.not_mem_nil, Bool.and_true, Bool.true_and, Bool.and_self, Bool.not_true, Bool.not_false, Bool.or_self, Bool.or_false, Bool.false_or, Bool.false_eq_true, Bool.true_eq_false, Bool.cond_true_left, Bool.cond_false_right, cond_true, cond_false, reduceCtorEq, ↓reduceIte, if_true, if_false, true_and, and_true, and_self, false_and, and_false, or_false, false_or, not_false_eq_true, not_true_eq_false, forall_const, true_implies, false_implies, implies_true, imp_self, eq_self, ne_eq, Nat.reduceAdd, Nat.reduceSub, Nat.reduceMul, Nat.reduceMod, Nat.reduceLeDiff, Nat.reduceEqDiff, Nat.zero_add, Nat.add_zero, Nat.le_refl, Nat.succ_ne_self, Nat.one_ne_zero, Nat.zero_ne_one, Int.toNat_natCast, litRow, List.drop_succ_cons, List.drop_zero, List.take_succ_cons, List.take_zero, pubE, pubV, pubL, pubO, pubFE, pubFV, pubFL, pubFO, delO, eqS, eqB, Nat.reduceLT, Nat.not_lt_zero, Nat.sub_zero, decide_true, decide_false, true_or, or_true, Int.le_refl, Int.cast_ofNat_Int, Int.reduceToNat, Int.reduceLT, Int.reduceLE, beq_self_eq_true, Nat.mul_one, Nat.one_mul, Nat.zero_mul])
      | refine And.intro trivial ?_
      | refine And.intro rfl ?_
      | fail
  exact RetK.pure (by simp only [rs62, ressS, resS, and_self]) (by (simp only [rs62, retV, resV, Go.Bx.get, ↓reduceIte, eq_self, VLe_int, Go.Bx.get, ↓reduceIte, eq_self]) <;> (first | (rw [wI (by omega)]; omega)))

/-! One digit of a long division. -/
theorem kn_dec {u d v v1 v0 q r : Nat} (hv : v = v1 * 4294967296 + v0) (hu : u < v) (hd : d < 4294967296) (e : u = q * v1 + r) (hc : 4294967296 ≤ q ∨ 4294967296 * r + d < q * v0) : (u * 4294967296 + d) / v < q := by
  rw [Nat.div_lt_iff_lt_mul (by omega)]
  rcases hc with h | h
  · have h1 : 4294967296 * v ≤ q * v := Nat.mul_le_mul_right _ h
    omega
  · have h1 : q * v = q * v1 * 4294967296 + q * v0 := by rw [hv, Nat.mul_add, Nat.mul_assoc]
    omega
theorem kn_le {u d v v1 v0 q r : Nat} (hv : v = v1 * 4294967296 + v0) (h0 : 0 < v) (e : u = q * v1 + r) (h : q * v0 ≤ 4294967296 * r + d) : q ≤ (u * 4294967296 + d) / v := by
  rw [Nat.le_div_iff_mul_le h0]
  have h1 : q * v = q * v1 * 4294967296 + q * v0 := by rw [hv, Nat.mul_add, Nat.mul_assoc]
  omega
theorem kn_lo {u d v v1 v0 : Nat} (hv : v = v1 * 4294967296 + v0) (h1 : 0 < v1) (hd : d < 4294967296) : (u * 4294967296 + d) / v ≤ u / v1 := by
  rw [Nat.le_div_iff_mul_le h1]
  have h2 := Nat.div_mul_le_self (u * 4294967296 + d) v
  generalize (u * 4294967296 + d) / v = X at *
  have h3 : X * v = X * v1 * 4294967296 + X * v0 := by rw [hv, Nat.mul_add, Nat.mul_assoc]
  generalize X * v1 = a at *
  omega
/-- Divided by a number of 64 bits whose first one is set, the estimate is two too great at most. -/
theorem kn_start {u v v1 v0 : Nat} (hv : v = v1 * 4294967296 + v0) (h1 : 2147483648 ≤ v1) (h0 : v0 < 4294967296) (hu : u < v) : u / v1 ≤ 4294967297 := by
  have : u / v1 < 4294967298 := by
    rw [Nat.div_lt_iff_lt_mul (by omega)]
    omega
  omega
theorem kn_brk {u d v v1 v0 q r : Nat} (hv : v = v1 * 4294967296 + v0) (h0 : v0 < 4294967296) (hv0 : 0 < v) (e : u = q * v1 + r) (hq : q ≤ 4294967296) (hr : 4294967296 ≤ r) : q ≤ (u * 4294967296 + d) / v := by
  refine kn_le hv hv0 e ?_
  have : q * v0 ≤ 4294967296 * v0 := Nat.mul_le_mul_right _ hq
  omega
theorem kn_join {u d d0 t p q w z : Nat} (h1 : u * 4294967296 + d = p + w) (h2 : w * 4294967296 + d0 = q + z) (ht : t = d * 4294967296 + d0) : u * 18446744073709551616 + t = p * 4294967296 + q + z := by
  rw [ht, show (18446744073709551616 : Nat) = 4294967296 * 4294967296 from rfl, ← Nat.mul_assoc, ← Nat.add_assoc, ← Nat.add_mul, h1, Nat.add_mul, Nat.add_assoc, h2, Nat.add_assoc]
theorem g1 (u v1 : Nat) (hu : u < 18446744073709551616) : IntKind.u64.wrap ((u / v1 : Nat) : Int) = ((u / v1 : Nat) : Int) := by
  rw [wUn, Nat.mod_eq_of_lt (Nat.lt_of_le_of_lt (Nat.div_le_self u v1) hu)]
theorem g2 (u v1 : Nat) (hu : u < 18446744073709551616) : IntKind.u64.wrap (((u / v1 : Nat) : Int) * (v1 : Int)) = ((u / v1 * v1 : Nat) : Int) := by
  have := Nat.div_mul_le_self u v1
  rw [← Int.natCast_mul, wU (by omega)]
theorem g3 (u v1 : Nat) (hu : u < 18446744073709551616) : IntKind.u64.wrap ((u : Int) - ((u / v1 * v1 : Nat) : Int)) = ((u % v1 : Nat) : Int) := by
  have h1 := Nat.div_mul_le_self u v1
  have h2 := Nat.div_add_mod' u v1
  have : u % v1 ≤ u := Nat.mod_le u v1
  exact (wU (by omega)).trans (by omega)
theorem g4 (u d v q w : Nat) (hw : w < 18446744073709551616) (e : u * 4294967296 + d = q * v + w) :
    IntKind.u64.wrap (IntKind.u64.wrap (IntKind.u64.wrap ((u : Int) * 4294967296) + (d : Int)) - IntKind.u64.wrap ((q : Int) * (v : Int))) = (w : Int) := by
  rw [← Int.natCast_mul]
  generalize q * v = p at *
  simp only [IntKind.wrap_u64]
  omega
theorem gm (x : Nat) : IntKind.u64.wrap ((x % 4294967296 : Nat) : Int) = ((x % 4294967296 : Nat) : Int) := by rw [wU (by omega)]
/-- One digit, as the code finds it. -/
structure KnI (u d v v1 v0 q r : Nat) : Prop where
  lo : (u * 4294967296 + d) / v ≤ q
  hi : q ≤ 4294967297
  e : u = q * v1 + r
  r : r < 4294967296
theorem kn_cond {d v0 q r : Nat} (hd : d < 4294967296) (h0 : v0 < 4294967296) (hr : r < 4294967296) :
    ((decide ((q : Int) ≥ 4294967296) || decide (IntKind.u64.wrap ((q : Int) * (v0 : Int)) > IntKind.u64.wrap (IntKind.u64.wrap (4294967296 * (r : Int)) + (d : Int)))) = true) ↔ (4294967296 ≤ q ∨ 4294967296 * r + d < q * v0) := by
  by_cases hq : 4294967296 ≤ q
  · have : (q : Int) ≥ 4294967296 := by omega
    simp [this, hq]
  · have h1 : q * v0 ≤ 4294967295 * 4294967295 := Nat.mul_le_mul (by omega) (by omega)
    have h2 : ¬ ((q : Int) ≥ 4294967296) := by omega
    rw [← Int.natCast_mul, wU (a := ((q * v0 : Nat) : Int)) (by omega), wU (a := 4294967296 * (r : Int)) (by omega), wU (by omega)]
    simp only [h2, decide_false, Bool.false_or, decide_eq_true_eq, hq, false_or]
    omega
theorem sDiv64 (hi lo y : Nat) (hh : hi < y) (hl : lo < 18446744073709551616) (hy : y < 18446744073709551616) : Ctr Try.prog 61 [.d (.int .u64 hi), .d (.int .u64 lo), .d (.int .u64 y)] []
    (.tup [.d (.int .u64 (((hi * 18446744073709551616 + lo) / y : Nat) : Int)), .d (.int .u64 (((hi * 18446744073709551616 + lo) % y : Nat) : Int))]) [] [] := by
  obtain ⟨n, b1, b2, b3⟩ := blen_spec (x := y) (by omega)
  have hn : n < 64 := (Nat.pow_lt_pow_iff_right (show 1 < 2 by omega)).1 (show 2 ^ n < 2 ^ 64 by omega)
  have hs : 64 - blen y = 63 - n := by omega
  have lz := sLZ y hy
  rw [hs] at lz
  obtain ⟨sh, hsd⟩ : ∃ sh, 63 - n = sh := ⟨_, rfl⟩
  rw [hsd] at lz
  obtain ⟨P, hP2⟩ : ∃ P, 2 ^ sh = P := ⟨_, rfl⟩
  obtain ⟨Q, hQ2⟩ : ∃ Q, 2 ^ (64 - sh) = Q := ⟨_, rfl⟩
  have hP0 : 0 < P := hP2 ▸ Nat.two_pow_pos sh
  have hQ0 : 0 < Q := hQ2 ▸ Nat.two_pow_pos _
  have hPQ : Q * P = 18446744073709551616 := by
    rw [← hP2, ← hQ2, ← Nat.pow_add, show 64 - sh + sh = 64 by omega]
  obtain ⟨v, hv⟩ : ∃ v, y * P = v := ⟨_, rfl⟩
  have v63 : 9223372036854775808 ≤ v := by
    have h1 : 2 ^ n * P ≤ y * P := Nat.mul_le_mul_right _ b2
    rw [← hP2, ← Nat.pow_add, show n + sh = 63 by omega, hP2, hv] at h1
    exact h1
  have v64 : v < 18446744073709551616 := by
    have h1 : y * P < 2 ^ (n + 1) * P := Nat.mul_lt_mul_of_pos_right b3 hP0
    rw [← hP2, ← Nat.pow_add, show n + 1 + sh = 64 by omega, hP2, hv] at h1
    exact h1
  obtain ⟨g, hg⟩ : ∃ g, lo / Q = g := ⟨_, rfl⟩
  obtain ⟨t, ht⟩ : ∃ t, lo * P % 18446744073709551616 = t := ⟨_, rfl⟩
  have hgP : g < P := by
    rw [← hg, Nat.div_lt_iff_lt_mul hQ0, Nat.mul_comm, hPQ]; exact hl
  have hlo : lo * P = g * 18446744073709551616 + t := by
    have h1 := Nat.div_add_mod (lo * P) 18446744073709551616
    have h2 : lo * P / 18446744073709551616 = g := by rw [← hPQ, Nat.mul_div_mul_right _ _ hP0, hg]
    rw [h2, ht] at h1; omega
  obtain ⟨u, hu⟩ : ∃ u, hi * P + g = u := ⟨_, rfl⟩
  have ht64 : t < 18446744073709551616 := by rw [← ht]; exact Nat.mod_lt _ (by omega)
  have hN : (hi * 18446744073709551616 + lo) * P = u * 18446744073709551616 + t := by
    rw [Nat.add_mul, hlo, ← hu, Nat.mul_right_comm]; omega
  have huv : u < v := by
    have h1 : (hi * 18446744073709551616 + lo) < y * 18446744073709551616 := by omega
    have h2 : (hi * 18446744073709551616 + lo) * P < y * 18446744073709551616 * P := Nat.mul_lt_mul_of_pos_right h1 hP0
    rw [hN, Nat.mul_right_comm, hv] at h2
    omega
  have hhP : hi * P < 18446744073709551616 := by omega
  have e1 : IntKind.u64.wrap (sh : Int) = (sh : Int) := wU (by omega)
  have e2 : (2 : Int) ^ min sh IntKind.u64.bits = (P : Int) := by
    rw [show min sh IntKind.u64.bits = sh from Nat.min_eq_left (show sh ≤ 64 by omega), ← hP2]; simp
  have e3 : IntKind.u64.wrap ((y : Int) * (P : Int)) = (v : Int) := by rw [← Int.natCast_mul, hv, wU (by omega)]
  have e4 : IntKind.u64.wrap ((hi : Int) * (P : Int)) = ((hi * P : Nat) : Int) := by rw [← Int.natCast_mul]; exact wU (by omega)
  have e5 : IntKind.u64.wrap (64 - (sh : Int)) = ((64 - sh : Nat) : Int) := (wU (by omega)).trans (by omega)
  have e6 : (2 : Int) ^ min (64 - sh) IntKind.u64.bits = (Q : Int) := by
    rw [show min (64 - sh) IntKind.u64.bits = 64 - sh from Nat.min_eq_left (show 64 - sh ≤ 64 by omega), ← hQ2]; simp
  have e7 : (lo : Int).fdiv (Q : Int) = (g : Int) := by rw [fdiv_nat, hg]
  have e8 : IntKind.u64.wrap ((BitVec.ofInt IntKind.u64.bits ((hi * P : Nat) : Int) ||| BitVec.ofInt IntKind.u64.bits (g : Int)).toNat : Int) = (u : Int) := by
    have := orU_add hi sh g (by rw [hP2]; omega) (by rw [hP2]; omega) (by omega)
    rw [hP2, hu] at this
    exact this
  have e9 : IntKind.u64.wrap ((lo : Int) * (P : Int)) = (t : Int) := by rw [← Int.natCast_mul, wUn, ht]
  refine pure61 (by simp) rfl rfl ?_; intro c hP hfn; simp only [c61, vcC_seq, vcC_reg, vcC_drw, vcC_skip, vcC_cond, vcC_ret, vcC_bad, seqK_nrm, seqK_ret, nrmK_app, drwK_app, initE, vcR_nil, vcR_n, isCall, makes, newOf, opR, binI, evS, evV, evX, Go.Bx.get, St.stp, Ef.stp, Stp.lg, lgs, setE, applyU, newN, List.map_nil, List.append_nil, List.nil_append, List.cons_append, Bool.false_eq_true, reduceCtorEq, ↓reduceIte, true_and, and_self, eq_self, ne_eq, Nat.reduceAdd, Nat.reduceEqDiff, Nat.zero_add, Nat.succ_ne_self, Nat.zero_ne_one]
  refine ⟨fun h => ?_, fun h => ?_⟩
  · exfalso; simp at h; omega
  refine ⟨fun h2 => ?_, fun h2 => ?_⟩
  · exfalso; simp at h2; omega
  refine ⟨fun h3 => ?_, fun h3 => ?_⟩
  · have h0 : hi = 0 := by simpa using h3
    subst h0
    repeat' first
        | (first
            | refine TR.p hP (by first | fail) (by repeat' first | exact trivial | (intro _; assumption) | apply And.intro) ?_
            | refine TR.gp hP rfl (fun _ => by first | fail) (fun _ => by repeat' first | exact trivial | (intro _; assumption) | apply And.intro) ?_
            | refine TR.pv hP rfl (by first | fail) trivial (by repeat' first | exact trivial | (intro _; assumption) | apply And.intro) ?_
           try simp only [↓evSo_some, vcC_seq, vcC_reg, vcC_drw, vcC_skip, vcC_cond, vcC_block, vcC_exit, vcC_ret, vcC_bad, seqK_nrm, seqK_exit, seqK_ret, blkK_nrm, blkK_exit, blkK_ret, lopK_exit, lopK_ret, lopX_exit, lopX_ret, jmpK_nrm, jmpK_exit, jmpK_ret, nrmK_app, drwK_app, initE, vcR_nil, vcR_n, vcR_s, isCall, makes, hasU, slK, newOf, opR, binI, pickV, evS, evV, evX, evSs, evVs, evParts, evPartsS, fillV, catV, gOf, Go.Bx.get, Go.Bx.own?, cellsV, isCell, cut, cutD, nth, nthD, dropV, takeV, dropD, takeDV, putV, toDs, St.stp, Ef.stp, Stp.lg, lgs, setE, applyU, setO, delO, newN, keysO, callU, Ef.bad, Option.getD_some, Option.getD_none, Option.map_some, Option.map_none, List.all_cons, List.all_nil, List.map_cons, List.map_nil, List.append_nil, List.nil_append, List.cons_append, List.length_cons, List.length_nil, List.mem_cons, List.not_mem_nil, Bool.and_true, Bool.true_and, Bool.and_self, Bool.not_true, Bool.not_false, Bool.or_self, Bool.or_false, Bool.false_or, Bool.false_eq_true, Bool.true_eq_false, Bool.cond_true_left, Bool.cond_false_right, cond_true, cond_false, reduceCtorEq, ↓reduceIte, if_true, if_false, true_and, and_true, and_self, false_and, and_false, or_false, false_or, not_false_eq_true, not_true_eq_false, forall_const, true_implies, false_implies, implies_true, imp_self, eq_self, ne_eq, Nat.reduceAdd, Nat.reduceSub, Nat.reduceMul, Nat.reduceMod, Nat.reduceLeDiff, Nat.reduceEqDiff, Nat.zero_add, Nat.add_zero, Nat.le_refl, Nat.succ_ne_self, Nat.one_ne_zero, Nat.zero_ne_one, Int.toNat_natCast, litRow, List.drop_succ_cons, List.drop_zero, List.take_succ_cons, List.take_zero, pubE, pubV, pubL, pubO, pubFE, pubFV, pubFL, pubFO, delO, eqS, eqB, Nat.reduceLT, Nat.not_lt_zero, Nat.sub_zero, decide_true, decide_false, true_or, or_true, Int.le_refl, Int.cast_ofNat_Int, Int.reduceToNat, Int.reduceLT, Int.reduceLE, beq_self_eq_true, Nat.mul_one, Nat.one_mul, Nat.zero_mul])
        | refine And.intro (fun h => ?_) (fun h => ?_)
        | refine And.intro (by first | omega | (simp only [decide_eq_false_iff_not] at *; omega)) ?_
        | (refine TR.aslO rfl rfl rfl rfl trivial (Nat.le_of_ble_eq_true rfl) ?_
           try simp only [↓evSo_some, vcC_seq, vcC_reg, vcC_drw, vcC_skip, vcC_cond, vcC_block, vcC_exit, vcC_ret, vcC_bad, seqK_nrm, seqK_exit, seqK_ret, blkK_nrm, blkK_exit, blkK_ret, lopK_exit, lopK_ret, lopX_exit, lopX_ret, jmpK_nrm, jmpK_exit, jmpK_ret, nrmK_app, drwK_app, initE, vcR_nil, vcR_n, vcR_s, isCall, makes, hasU, slK, newOf, opR, binI, pickV, evS, evV, evX, evSs, evVs, evParts, evPartsS, fillV, catV, gOf, Go.Bx.get, Go.Bx.own?, cellsV, isCell, cut, cutD, nth, nthD, dropV, takeV, dropD, takeDV, putV, toDs, St.stp, Ef.stp, Stp.lg, lgs, setE, applyU, setO, delO, newN, keysO, callU, Ef.bad, Option.getD_some, Option.getD_none, Option.map_some, Option.map_none, List.all_cons, List.all_nil, List.map_cons, List.map_nil, List.append_nil, List.nil_append, List.cons_append, List.length_cons, List.length_nil, List.mem_cons, List.not_mem_nil, Bool.and_true, Bool.true_and, Bool.and_self, Bool.not_true, Bool.not_false, Bool.or_self, Bool.or_false, Bool.false_or, Bool.false_eq_true, Bool.true_eq_false, Bool.cond_true_left, Bool.cond_false_right, cond_true, cond_false, reduceCtorEq, ↓reduceIte, if_true, if_false, true_and, and_true, and_self, false_and, and_false, or_false, false_or, not_false_eq_true, not_true_eq_false, forall_const, true_implies, false_implies, implies_true, imp_self, eq_self, ne_eq, Nat.reduceAdd, Nat.reduceSub, Nat.reduceMul, Nat.reduceMod, Nat.reduceLeDiff, Nat.reduceEqDiff, Nat.zero_add, Nat.add_zero, Nat.le_refl, Nat.succ_ne_self, Nat.one_ne_zero, Nat.zero_ne_one, Int.toNat_natCast, litRow, List.drop_succ_cons, List.drop_zero, List.take_succ_cons, List.take_zero, pubE, pubV, pubL, pubO, pubFE, pubFV, pubFL, pubFO, delO, eqS, eqB, Nat.reduceLT, Nat.not_lt_zero, Nat.sub_zero, decide_true, decide_false, true_or, or_true, Int.le_refl, Int.cast_ofNat_Int, Int.reduceToNat, Int.reduceLT, Int.reduceLE, beq_self_eq_true, Nat.mul_one, Nat.one_mul, Nat.zero_mul])
        | refine And.intro trivial ?_
        | refine And.intro rfl ?_
        | fail
    (refine RetK.pure (by simp only [rs61, ressS, resS, and_self, Int.cast_ofNat_Int, beq_self_eq_true]) (VLe.tups ?_); simp only [ressV, resV, Go.Bx.get, ↓reduceIte, eq_self, Nat.zero_add, Nat.succ_ne_self, Nat.zero_mul])
    refine ⟨VLe.int ?_, VLe.int ?_, trivial⟩
    · simp only [tdiv_nat, g1 _ _ hl]
    · simp only [tmod_nat]
  have hv1 : v = v / 4294967296 * 4294967296 + v % 4294967296 := by omega
  have hv1b : 2147483648 ≤ v / 4294967296 := by omega
  have hv0 : v % 4294967296 < 4294967296 := by omega
  obtain ⟨v1, hv1d⟩ : ∃ v1, v / 4294967296 = v1 := ⟨_, rfl⟩
  obtain ⟨v0, hv0d⟩ : ∃ v0, v % 4294967296 = v0 := ⟨_, rfl⟩
  obtain ⟨d, hdd⟩ : ∃ d, t / 4294967296 = d := ⟨_, rfl⟩
  obtain ⟨d0, hd0d⟩ : ∃ d0, t % 4294967296 = d0 := ⟨_, rfl⟩
  have hd : d < 4294967296 := by omega
  have hd0 : d0 < 4294967296 := by omega
  have f1 : (v : Int).fdiv 4294967296 = (v1 : Int) := by rw [fdivL, hv1d]
  have f2 : (t : Int).fdiv 4294967296 = (d : Int) := by rw [fdivL, hdd]
  have f3 : IntKind.u64.wrap ((BitVec.ofInt IntKind.u64.bits (v : Int) &&& BitVec.ofInt IntKind.u64.bits 4294967295).toNat : Int) = (v0 : Int) := by rw [andN, gm, hv0d]
  have f4 : IntKind.u64.wrap ((BitVec.ofInt IntKind.u64.bits (t : Int) &&& BitVec.ofInt IntKind.u64.bits 4294967295).toNat : Int) = (d0 : Int) := by rw [andN, gm, hd0d]
  rw [hv1d, hv0d] at hv1
  rw [hv1d] at hv1b
  rw [hv0d] at hv0
  have hu64 : u < 18446744073709551616 := by omega
  have f5 : IntKind.u64.wrap ((u : Int).tdiv (v1 : Int)) = ((u / v1 : Nat) : Int) := by rw [tdiv_nat, g1 _ _ hu64]
  have hdiv : ∀ q r, KnI u d v v1 v0 q r → (4294967296 ≤ q ∨ 4294967296 * r + d < q * v0) → (u * 4294967296 + d) / v + 1 ≤ q := fun q r h hc => kn_dec hv1 huv hd h.e hc
  obtain ⟨q1, hq1⟩ : ∃ q1, (u * 4294967296 + d) / v = q1 := ⟨_, rfl⟩
  obtain ⟨w, hw⟩ : ∃ w, (u * 4294967296 + d) % v = w := ⟨_, rfl⟩
  have hwv : w < v := by rw [← hw]; exact Nat.mod_lt _ (by omega)
  have hqw : u * 4294967296 + d = q1 * v + w := by
    have := Nat.div_add_mod' (u * 4294967296 + d) v
    rw [hq1, hw] at this; exact this.symm
  obtain ⟨q0, hq0⟩ : ∃ q0, (w * 4294967296 + d0) / v = q0 := ⟨_, rfl⟩
  obtain ⟨z, hz⟩ : ∃ z, (w * 4294967296 + d0) % v = z := ⟨_, rfl⟩
  have hzv : z < v := by rw [← hz]; exact Nat.mod_lt _ (by omega)
  have hqz : w * 4294967296 + d0 = q0 * v + z := by
    have := Nat.div_add_mod' (w * 4294967296 + d0) v
    rw [hq0, hz] at this; exact this.symm
  have hq1b : q1 < 4294967296 := by rw [← hq1, Nat.div_lt_iff_lt_mul (by omega)]; omega
  have hq0b : q0 < 4294967296 := by rw [← hq0, Nat.div_lt_iff_lt_mul (by omega)]; omega
  have hw64 : w < 18446744073709551616 := by omega
  have hz64 : z < 18446744073709551616 := by omega
  have f6 := g4 u d v q1 w hw64 hqw
  have f7 := g4 w d0 v q0 z hz64 hqz
  have f8 : IntKind.u64.wrap ((w : Int).tdiv (v1 : Int)) = ((w / v1 : Nat) : Int) := by rw [tdiv_nat, g1 _ _ hw64]
  -- the whole division
  have hfin : hi * 18446744073709551616 + lo = (q1 * 4294967296 + q0) * y + z / P ∧ z / P < y := by
    have h1 : (hi * 18446744073709551616 + lo) * P = (q1 * 4294967296 + q0) * v + z := by
      have ht2 : t = d * 4294967296 + d0 := by omega
      have h2 : (q1 * 4294967296 + q0) * v = q1 * v * 4294967296 + q0 * v := by rw [Nat.add_mul, Nat.mul_right_comm]
      rw [hN, h2]; exact kn_join hqw hqz ht2
    have h3 : (hi * 18446744073709551616 + lo) * P = (q1 * 4294967296 + q0) * y * P + z := by rw [h1, ← hv, Nat.mul_assoc]
    have h4 : z = ((hi * 18446744073709551616 + lo) - (q1 * 4294967296 + q0) * y) * P := by rw [Nat.sub_mul]; omega
    have h5 : z / P = (hi * 18446744073709551616 + lo) - (q1 * 4294967296 + q0) * y := by rw [h4, Nat.mul_div_cancel _ hP0]
    have h6 : (q1 * 4294967296 + q0) * y ≤ hi * 18446744073709551616 + lo := Nat.le_of_mul_le_mul_right (by omega) hP0
    refine ⟨by rw [h5]; exact (Nat.add_sub_cancel' h6).symm, ?_⟩
    rw [Nat.div_lt_iff_lt_mul hP0, hv]; exact hzv
  have hqq : (hi * 18446744073709551616 + lo) / y = q1 * 4294967296 + q0 := by
    rw [hfin.1, Nat.mul_comm _ y, Nat.mul_add_div (by omega), Nat.div_eq_of_lt hfin.2, Nat.add_zero]
  have hrr : (hi * 18446744073709551616 + lo) % y = z / P := by
    rw [hfin.1, Nat.mul_comm _ y, Nat.mul_add_mod, Nat.mod_eq_of_lt hfin.2]
  repeat' first
      | (first
          | refine TR.p hP (by first | exact lz) (by repeat' first | exact trivial | (intro _; assumption) | apply And.intro) ?_
          | refine TR.gp hP rfl (fun _ => by first | exact lz) (fun _ => by repeat' first | exact trivial | (intro _; assumption) | apply And.intro) ?_
          | refine TR.pv hP rfl (by first | exact lz) trivial (by repeat' first | exact trivial | (intro _; assumption) | apply And.intro) ?_
         try simp only [p32, e1, e2, e3, e4, e5, e6, e7, e8, e9, f1, f2, f3, f4, f5, g2 u v1 hu64, g3 u v1 hu64, vcC_seq, vcC_reg, vcC_block, seqK_nrm, nrmK_app, vcR_nil, vcR_n, isCall, makes, newOf, opR, binI, evS, evV, evX, Go.Bx.get, St.stp, Ef.stp, lgs, setE, applyU, newN, Bool.false_eq_true, reduceCtorEq, ↓reduceIte, true_and, and_self, eq_self, ne_eq, Nat.reduceEqDiff, Nat.succ_ne_self, Nat.zero_ne_one, Int.toNat_natCast, Int.reduceToNat, Int.reduceLE])
      | refine And.intro (fun h => ?_) (fun h => ?_)
      | refine And.intro (by first | omega | (simp only [maxLen, decide_eq_true_eq, decide_eq_false_iff_not] at *; omega)) ?_
      | (refine TR.aslO rfl rfl rfl rfl trivial (Nat.le_of_ble_eq_true rfl) ?_
         try simp only [p32, e1, e2, e3, e4, e5, e6, e7, e8, e9, f1, f2, f3, f4, f5, g2 u v1 hu64, g3 u v1 hu64, ↓evSo_some, vcC_seq, vcC_reg, vcC_drw, vcC_skip, vcC_cond, vcC_block, vcC_exit, vcC_ret, vcC_bad, seqK_nrm, seqK_exit, seqK_ret, blkK_nrm, blkK_exit, blkK_ret, lopK_exit, lopK_ret, lopX_exit, lopX_ret, jmpK_nrm, jmpK_exit, jmpK_ret, nrmK_app, drwK_app, initE, vcR_nil, vcR_n, vcR_s, isCall, makes, hasU, slK, newOf, opR, binI, pickV, evS, evV, evX, evSs, evVs, evParts, evPartsS, fillV, catV, gOf, Go.Bx.get, Go.Bx.own?, cellsV, isCell, cut, cutD, nth, nthD, dropV, takeV, dropD, takeDV, putV, toDs, St.stp, Ef.stp, Stp.lg, lgs, setE, applyU, setO, delO, newN, keysO, callU, Ef.bad, Option.getD_some, Option.getD_none, Option.map_some, Option.map_none, List.all_cons, List.all_nil, List.map_cons, List.map_nil, List.append_nil, List.nil_append, List.cons_append, List.length_cons, List.length_nil, List.mem_cons, List.not_mem_nil, Bool.and_true, Bool.true_and, Bool.and_self, Bool.not_true, Bool.not_false, Bool.or_self, Bool.or_false, Bool.false_or, Bool.false_eq_true, Bool.true_eq_false, Bool.cond_true_left, Bool.cond_false_right, cond_true, cond_false, reduceCtorEq, ↓reduceIte, if_true, if_false, true_and, and_true, and_self, false_and, and_false, or_false, false_or, not_false_eq_true, not_true_eq_false, forall_const, true_implies, false_implies, implies_true, imp_self, eq_self, ne_eq, Nat.reduceAdd, Nat.reduceSub, Nat.reduceMul, Nat.reduceMod, Nat.reduceLeDiff, Nat.reduceEqDiff, Nat.zero_add, Nat.add_zero, Nat.le_refl, Nat.succ_ne_self, Nat.one_ne_zero, Nat.zero_ne_one, Int.toNat_natCast, litRow, List.drop_succ_cons, List.drop_zero, List.take_succ_cons, List.take_zero, pubE, pubV, pubL, pubO, pubFE, pubFV, pubFL, pubFO, delO, eqS, eqB, Nat.reduceLT, Nat.not_lt_zero, Nat.sub_zero, decide_true, decide_false, true_or, or_true, Int.le_refl, Int.cast_ofNat_Int, Int.reduceToNat, Int.reduceLT, Int.reduceLE, beq_self_eq_true, Nat.mul_one, Nat.one_mul, Nat.zero_mul])
      | refine And.intro trivial ?_
      | refine And.intro rfl ?_
      | fail
  refine vcC.loopX (X := Nat × Nat) (Y := Unit) (fun x => ⟨[(2, .d (.int .u64 v)), (8, .d (.int .u64 sh)), (9, .d (.int .u64 v1)), (10, .d (.int .u64 v0)), (11, .d (.int .u64 u)), (13, .d (.int .u64 d)), (14, .d (.int .u64 d0)), (15, .d (.int .u64 x.1)), (16, .d (.int .u64 x.2))], [], []⟩)
    (fun x => KnI u d v v1 v0 x.1 x.2) (fun x => x.1) (u / v1, u % v1)
    (fun _ => ⟨[(2, .d (.int .u64 v)), (8, .d (.int .u64 sh)), (9, .d (.int .u64 v1)), (10, .d (.int .u64 v0)), (11, .d (.int .u64 u)), (13, .d (.int .u64 d)), (14, .d (.int .u64 d0)), (15, .d (.int .u64 q1))], [], []⟩) (fun _ => True)
    ⟨kn_lo hv1 (by omega) hd, kn_start hv1 hv1b hv0 huv, (Nat.div_add_mod' u v1).symm, by have := Nat.mod_lt u (show 0 < v1 by omega); omega⟩ (Wk.of [] hfn rfl (by simp only [EnvLe, VLe_refl, Go.Bx.get, ↓reduceIte, and_self, eq_self, Nat.reduceEqDiff, Nat.succ_ne_self]) (by simp only [OwnLe])) ?_ ?_
  · rintro ⟨q, r⟩ hk
    simp only at hk
    have hc := kn_cond (q := q) hd hv0 hk.r
    simp only [vcC_seq, vcC_reg, vcC_skip, vcC_cond, vcC_block, vcC_exit, seqK_nrm, seqK_exit, blkK_nrm, blkK_exit, lopX_exit, nrmK_app, vcR_nil, vcR_n, vcR_s, isCall, makes, hasU, newOf, opR, binI, pickV, evS, evV, evX, gOf, Go.Bx.get, St.stp, Ef.stp, lgs, setE, applyU, newN, Option.getD_some, List.not_mem_nil, Bool.true_and, Bool.false_eq_true, Bool.cond_true_left, reduceCtorEq, ↓reduceIte, true_and, and_true, and_self, not_false_eq_true, forall_const, implies_true, imp_self, eq_self, Nat.reduceEqDiff, Nat.succ_ne_self]
    refine ⟨fun h4 => ?_, fun h4 => ?_⟩
    · have h5 := hdiv q r hk (hc.1 h4)
      have k1 := hk.e
      have k2 := hk.r
      have k3 := hk.hi
      have c1 : IntKind.u64.wrap ((q : Int) - 1) = ((q - 1 : Nat) : Int) := (wU (by omega)).trans (by omega)
      have c2 : IntKind.u64.wrap ((r : Int) + (v1 : Int)) = ((r + v1 : Nat) : Int) := (wU (by omega)).trans (by omega)
      have c3 : u = (q - 1) * v1 + (r + v1) := by
        have : q * v1 = (q - 1) * v1 + v1 := by
          rw [← Nat.succ_mul]; congr 1; omega
        omega
      simp only [c1, c2]
      refine ⟨fun h6 => ?_, fun h6 => ?_⟩
      · have h7 : 4294967296 ≤ r + v1 := by have := of_decide_eq_true h6; omega
        have h8 := kn_brk (d := d) hv1 hv0 (by omega) c3 (by omega) h7
        refine ⟨(), Wk.of [] hfn rfl (by simp only [EnvLe, VLe_refl, VLe_int, Go.Bx.get, ↓reduceIte, true_and, and_true, eq_self, Nat.reduceEqDiff, Nat.succ_ne_self]; omega) (by simp only [OwnLe])⟩
      · have h7 : r + v1 < 4294967296 := by have := of_decide_eq_false h6; omega
        exact lopX.on (q - 1, r + v1) ⟨by simp only; omega, by simp only; omega, c3, h7⟩ (by simp only; omega) (Wk.of [] hfn rfl (by simp only [EnvLe, VLe_refl, Go.Bx.get, ↓reduceIte, and_self, eq_self, Nat.reduceEqDiff, Nat.succ_ne_self]) (by simp only [OwnLe]))
    · have h5 : ¬ (4294967296 ≤ q ∨ 4294967296 * r + d < q * v0) := fun e => by rw [hc.2 e] at h4; cases h4
      have h8 := kn_le (d := d) hv1 (by omega) hk.e (by omega)
      have h9 := hk.lo
      exact ⟨(), Wk.of [] hfn rfl (by simp only [EnvLe, VLe_refl, VLe_int, Go.Bx.get, ↓reduceIte, true_and, and_true, eq_self, Nat.reduceEqDiff]; omega) (by simp only [OwnLe])⟩
  · rintro - -
    simp only [f6, f8, g2 w v1 hw64, g3 w v1 hw64, vcC_seq, vcC_reg, vcC_block, seqK_nrm, nrmK_app, vcR_nil, vcR_n, isCall, makes, newOf, opR, binI, evS, evV, evX, Go.Bx.get, St.stp, Ef.stp, lgs, setE, applyU, newN, Bool.false_eq_true, ↓reduceIte, true_and, and_self, eq_self, ne_eq, Nat.reduceEqDiff, Nat.succ_ne_self]
    refine ⟨by omega, ?_⟩
    have hdiv2 : ∀ q r, KnI w d0 v v1 v0 q r → (4294967296 ≤ q ∨ 4294967296 * r + d0 < q * v0) → (w * 4294967296 + d0) / v + 1 ≤ q := fun q r h hc => kn_dec hv1 hwv hd0 h.e hc
    refine vcC.loopX (X := Nat × Nat) (Y := Unit) (fun x => ⟨[(2, .d (.int .u64 v)), (8, .d (.int .u64 sh)), (9, .d (.int .u64 v1)), (10, .d (.int .u64 v0)), (14, .d (.int .u64 d0)), (15, .d (.int .u64 q1)), (17, .d (.int .u64 w)), (18, .d (.int .u64 x.1)), (16, .d (.int .u64 x.2))], [], []⟩)
      (fun x => KnI w d0 v v1 v0 x.1 x.2) (fun x => x.1) (w / v1, w % v1)
      (fun _ => ⟨[(2, .d (.int .u64 v)), (8, .d (.int .u64 sh)), (14, .d (.int .u64 d0)), (15, .d (.int .u64 q1)), (17, .d (.int .u64 w)), (18, .d (.int .u64 q0))], [], []⟩) (fun _ => True)
      ⟨kn_lo hv1 (by omega) hd0, kn_start hv1 hv1b hv0 hwv, (Nat.div_add_mod' w v1).symm, by have := Nat.mod_lt w (show 0 < v1 by omega); omega⟩ (Wk.of [] hfn rfl (by simp only [EnvLe, VLe_refl, Go.Bx.get, ↓reduceIte, and_self, eq_self, Nat.reduceEqDiff, Nat.succ_ne_self]) (by simp only [OwnLe])) ?_ ?_
    · rintro ⟨q, r⟩ hk
      simp only at hk
      have hc := kn_cond (q := q) hd0 hv0 hk.r
      simp only [vcC_seq, vcC_reg, vcC_skip, vcC_cond, vcC_block, vcC_exit, seqK_nrm, seqK_exit, blkK_nrm, blkK_exit, lopX_exit, nrmK_app, vcR_nil, vcR_n, vcR_s, isCall, makes, hasU, newOf, opR, binI, pickV, evS, evV, evX, gOf, Go.Bx.get, St.stp, Ef.stp, lgs, setE, applyU, newN, Option.getD_some, List.not_mem_nil, Bool.true_and, Bool.false_eq_true, Bool.cond_true_left, ↓reduceIte, true_and, and_true, and_self, not_false_eq_true, forall_const, implies_true, imp_self, eq_self, Nat.reduceEqDiff, Nat.succ_ne_self]
      refine ⟨fun h4 => ?_, fun h4 => ?_⟩
      · have h5 := hdiv2 q r hk (hc.1 h4)
        have k1 := hk.e
        have k2 := hk.r
        have k3 := hk.hi
        have c1 : IntKind.u64.wrap ((q : Int) - 1) = ((q - 1 : Nat) : Int) := (wU (by omega)).trans (by omega)
        have c2 : IntKind.u64.wrap ((r : Int) + (v1 : Int)) = ((r + v1 : Nat) : Int) := (wU (by omega)).trans (by omega)
        have c3 : w = (q - 1) * v1 + (r + v1) := by
          have : q * v1 = (q - 1) * v1 + v1 := by
            rw [← Nat.succ_mul]; congr 1; omega
          omega
        simp only [c1, c2]
        refine ⟨fun h6 => ?_, fun h6 => ?_⟩
        · have h7 : 4294967296 ≤ r + v1 := by have := of_decide_eq_true h6; omega
          have h8 := kn_brk (d := d0) hv1 hv0 (by omega) c3 (by omega) h7
          refine ⟨(), Wk.of [] hfn rfl (by simp only [EnvLe, VLe_refl, VLe_int, Go.Bx.get, ↓reduceIte, true_and, and_true, eq_self, Nat.reduceEqDiff, Nat.succ_ne_self]; omega) (by simp only [OwnLe])⟩
        · have h7 : r + v1 < 4294967296 := by have := of_decide_eq_false h6; omega
          exact lopX.on (q - 1, r + v1) ⟨by simp only; omega, by simp only; omega, c3, h7⟩ (by simp only; omega) (Wk.of [] hfn rfl (by simp only [EnvLe, VLe_refl, Go.Bx.get, ↓reduceIte, and_self, eq_self, Nat.reduceEqDiff, Nat.succ_ne_self]) (by simp only [OwnLe]))
      · have h5 : ¬ (4294967296 ≤ q ∨ 4294967296 * r + d0 < q * v0) := fun e => by rw [hc.2 e] at h4; cases h4
        have h8 := kn_le (d := d0) hv1 (by omega) hk.e (by omega)
        have h9 := hk.lo
        exact ⟨(), Wk.of [] hfn rfl (by simp only [EnvLe, VLe_refl, VLe_int, Go.Bx.get, ↓reduceIte, true_and, and_true, eq_self, Nat.reduceEqDiff]; omega) (by simp only [OwnLe])⟩
    · rintro - -
      have f9 : (z : Int).fdiv (P : Int) = ((z / P : Nat) : Int) := fdiv_nat z P
      have f10 : IntKind.u64.wrap (IntKind.u64.wrap ((q1 : Int) * 4294967296) + (q0 : Int)) = ((q1 * 4294967296 + q0 : Nat) : Int) := by
        rw [wU (a := (q1 : Int) * 4294967296) (by omega), wU (by omega)]; omega
      simp only [f7, f9, f10, e2, vcC_seq, vcC_reg, vcC_ret, seqK_nrm, nrmK_app, vcR_nil, vcR_n, isCall, makes, newOf, opR, binI, evS, evV, evX, Go.Bx.get, St.stp, Ef.stp, lgs, setE, applyU, newN, Bool.false_eq_true, ↓reduceIte, true_and, and_self, eq_self, Nat.reduceEqDiff, Nat.succ_ne_self, Int.toNat_natCast]
      repeat' first
          | (first
              | refine TR.p hP (by first | fail) (by repeat' first | exact trivial | (intro _; assumption) | apply And.intro) ?_
              | refine TR.gp hP rfl (fun _ => by first | fail) (fun _ => by repeat' first | exact trivial | (intro _; assumption) | apply And.intro) ?_
              | refine TR.pv hP rfl (by first | fail) trivial (by repeat' first | exact trivial | (intro _; assumption) | apply And.intro) ?_
             try simp only [↓evSo_some, vcC_seq, vcC_reg, vcC_drw, vcC_skip, vcC_cond, vcC_block, vcC_exit, vcC_ret, vcC_bad, seqK_nrm, seqK_exit, seqK_ret, blkK_nrm, blkK_exit, blkK_ret, lopK_exit, lopK_ret, lopX_exit, lopX_ret, jmpK_nrm, jmpK_exit, jmpK_ret, nrmK_app, drwK_app, initE, vcR_nil, vcR_n, vcR_s, isCall, makes, hasU, slK, newOf, opR, binI, pickV, evS, evV, evX, evSs, evVs, evParts, evPartsS, fillV, catV, gOf, Go.Bx.get, Go.Bx.own?, cellsV, isCell, cut, cutD, nth, nthD, dropV, takeV, dropD, takeDV, putV, toDs, St.stp, Ef.stp, Stp.lg, lgs, setE, applyU, setO, delO, newN, keysO, callU, Ef.bad, Option.getD_some, Option.getD_none, Option.map_some, Option.map_none, List.all_cons, List.all_nil, List.map_cons, List.map_nil, List.append_nil, List.nil_append, List.cons_append, List.length_cons, List.length_nil, List.mem_cons, List.not_mem_nil, Bool.and_true, Bool.true_and, Bool.and_self, Bool.not_true, Bool.not_false, Bool.or_self, Bool.or_false, Bool.false_or, Bool.false_eq_true, Bool.true_eq_false, Bool.cond_true_left, Bool.cond_false_right, cond_true, cond_false, reduceCtorEq, ↓reduceIte, if_true, if_false, true_and, and_true, and_self, false_and, and_false, or_false, false_or, not_false_eq_true, not_true_eq_false, forall_const, true_implies, false_implies, implies_true, imp_self, eq_self, ne_eq, Nat.reduceAdd, Nat.reduceSub, Nat.reduceMul, Nat.reduceMod, Nat.reduceLeDiff, Nat.reduceEqDiff, Nat.zero_add, Nat.add_zero, Nat.le_refl, Nat.succ_ne_self, Nat.one_ne_zero, Nat.zero_ne_one, Int.toNat_natCast, litRow, List.drop_succ_cons, List.drop_zero, List.take_succ_cons, List.take_zero, pubE, pubV, pubL, pubO, pubFE, pubFV, pubFL, pubFO, delO, eqS, eqB, Nat.reduceLT, Nat.not_lt_zero, Nat.sub_zero, decide_true, decide_false, true_or, or_true, Int.le_refl, Int.cast_ofNat_Int, Int.reduceToNat, Int.reduceLT, Int.reduceLE, beq_self_eq_true, Nat.mul_one, Nat.one_mul, Nat.zero_mul])
          | refine And.intro (fun h => ?_) (fun h => ?_)
          | refine And.intro (by first | omega | (simp only [maxLen, decide_eq_true_eq, decide_eq_false_iff_not] at *; omega)) ?_
          | (refine TR.aslO rfl rfl rfl rfl trivial (Nat.le_of_ble_eq_true rfl) ?_
             try simp only [↓evSo_some, vcC_seq, vcC_reg, vcC_drw, vcC_skip, vcC_cond, vcC_block, vcC_exit, vcC_ret, vcC_bad, seqK_nrm, seqK_exit, seqK_ret, blkK_nrm, blkK_exit, blkK_ret, lopK_exit, lopK_ret, lopX_exit, lopX_ret, jmpK_nrm, jmpK_exit, jmpK_ret, nrmK_app, drwK_app, initE, vcR_nil, vcR_n, vcR_s, isCall, makes, hasU, slK, newOf, opR, binI, pickV, evS, evV, evX, evSs, evVs, evParts, evPartsS, fillV, catV, gOf, Go.Bx.get, Go.Bx.own?, cellsV, isCell, cut, cutD, nth, nthD, dropV, takeV, dropD, takeDV, putV, toDs, St.stp, Ef.stp, Stp.lg, lgs, setE, applyU, setO, delO, newN, keysO, callU, Ef.bad, Option.getD_some, Option.getD_none, Option.map_some, Option.map_none, List.all_cons, List.all_nil, List.map_cons, List.map_nil, List.append_nil, List.nil_append, List.cons_append, List.length_cons, List.length_nil, List.mem_cons, List.not_mem_nil, Bool.and_true, Bool.true_and, Bool.and_self, Bool.not_true, Bool.not_false, Bool.or_self, Bool.or_false, Bool.false_or, Bool.false_eq_true, Bool.true_eq_false, Bool.cond_true_left, Bool.cond_false_right, cond_true, cond_false, reduceCtorEq, ↓reduceIte, if_true, if_false, true_and, and_true, and_self, false_and, and_false, or_false, false_or, not_false_eq_true, not_true_eq_false, forall_const, true_implies, false_implies, implies_true, imp_self, eq_self, ne_eq, Nat.reduceAdd, Nat.reduceSub, Nat.reduceMul, Nat.reduceMod, Nat.reduceLeDiff, Nat.reduceEqDiff, Nat.zero_add, Nat.add_zero, Nat.le_refl, Nat.succ_ne_self, Nat.one_ne_zero, Nat.zero_ne_one, Int.toNat_natCast, litRow, List.drop_succ_cons, List.drop_zero, List.take_succ_cons, List.take_zero, pubE, pubV, pubL, pubO, pubFE, pubFV, pubFL, pubFO, delO, eqS, eqB, Nat.reduceLT, Nat.not_lt_zero, Nat.sub_zero, decide_true, decide_false, true_or, or_true, Int.le_refl, Int.cast_ofNat_Int, Int.reduceToNat, Int.reduceLT, Int.reduceLE, beq_self_eq_true, Nat.mul_one, Nat.one_mul, Nat.zero_mul])
          | refine And.intro trivial ?_
          | refine And.intro rfl ?_
          | fail
      exact RetK.pure (by simp only [rs61, ressS, resS, and_self]) (by (simp only [rs61, retV, ressV, resV, Go.Bx.get, ↓reduceIte, eq_self, Nat.succ_ne_self, Go.Bx.get, ↓reduceIte, eq_self, Nat.succ_ne_self]) <;> (first | (rw [hqq, hrr]; exact VLe.refl _)))

/-! Products by a third number, rounded. -/
/-- Does a quotient go up? -/
def upE (q r c : Nat) : Bool := decide (c < 2 * r) || (decide (2 * r = c) && decide (q % 2 = 1))
def ofR (up : Nat → Nat → Nat → Bool) (a b c : Int) : Int × Int :=
  if a < 0 ∨ b < 0 ∨ c < 0 then (0, 1)
  else if c = 0 then (0, 6)
  else if 4000000000000000000 < a.toNat * b.toNat / c.toNat then (0, 5)
  else if 4000000000000000000 < a.toNat * b.toNat / c.toNat + (if up (a.toNat * b.toNat / c.toNat) (a.toNat * b.toNat % c.toNat) c.toNat = true then 1 else 0) then (0, 5)
  else (((a.toNat * b.toNat / c.toNat + (if up (a.toNat * b.toNat / c.toNat) (a.toNat * b.toNat % c.toNat) c.toNat = true then 1 else 0) : Nat) : Int), 0)
theorem sOf (g : Nat) (up : Nat → Nat → Nat → Bool) (hg : ∀ q r c : Nat, r < c → c < 9223372036854775808 → Ctr Try.prog g [.d (.int .u64 q), .d (.int .u64 r), .d (.int .u64 c)] [] (.d (.bool (up q r c))) [] [])
    (a b k : Int) (ha : a ≤ 9223372036854775807) (hb : b ≤ 9223372036854775807) (hc : k ≤ 9223372036854775807) :
    Ctr Try.prog 57 [.ag [.fn (.func g) [] []], .d (.int .i64 a), .d (.int .i64 b), .d (.int .i64 k)] [] (.tup [.d (.int .i64 (ofR up a b k).1), .d (.int .i64 (ofR up a b k).2)]) [] [] := by
  refine pure57 (by simp) rfl rfl ?_; intro c hP hfn; simp only [c57, vcC_seq, vcC_reg, vcC_skip, vcC_cond, vcC_block, vcC_ret, seqK_nrm, seqK_ret, blkK_nrm, blkK_ret, nrmK_app, initE, vcR_nil, vcR_n, vcR_s, isCall, makes, hasU, newOf, opR, binI, pickV, evS, evV, evX, gOf, Go.Bx.get, cellsV, isCell, St.stp, Ef.stp, lgs, setE, applyU, setO, newN, Option.getD_some, List.all_cons, List.all_nil, List.mem_cons, List.not_mem_nil, Bool.true_and, Bool.and_self, Bool.false_eq_true, Bool.cond_true_left, reduceCtorEq, ↓reduceIte, true_and, and_true, and_self, or_false, not_false_eq_true, forall_const, implies_true, imp_self, eq_self, Nat.reduceAdd, Nat.reduceEqDiff, Nat.zero_add, Nat.succ_ne_self, Nat.zero_ne_one]
  refine ⟨fun h1 => ?_, fun h1 => ?_⟩
  · have e : ofR up a b k = (0, 1) := by
      simp only [Bool.or_eq_true, decide_eq_true_eq] at h1
      rw [ofR, if_pos (by omega)]
    (refine RetK.pure (by simp only [rs57, ressS, resS, and_self]) (VLe.tups ?_); simp only [ressV, resV, Go.Bx.get, ↓reduceIte, eq_self, Nat.succ_ne_self])
    rw [e]; exact ⟨VLe.refl _, VLe.refl _, trivial⟩
  have h1 : ¬ (a < 0 ∨ b < 0 ∨ k < 0) := by
    simp only [Bool.or_eq_false_iff, decide_eq_false_iff_not] at h1; omega
  refine ⟨fun h2 => ?_, fun h2 => ?_⟩
  · have h2 : k = 0 := by simpa using h2
    have e : ofR up a b k = (0, 6) := by rw [ofR, if_neg h1, if_pos h2]
    (refine RetK.pure (by simp only [rs57, ressS, resS, and_self]) (VLe.tups ?_); simp only [ressV, resV, Go.Bx.get, ↓reduceIte, eq_self, Nat.succ_ne_self])
    rw [e]; exact ⟨VLe.refl _, VLe.refl _, trivial⟩
  have h2 : ¬ k = 0 := by simpa using h2
  obtain ⟨A, rfl⟩ : ∃ A : Nat, a = (A : Int) := ⟨a.toNat, by omega⟩
  obtain ⟨B, rfl⟩ : ∃ B : Nat, b = (B : Int) := ⟨b.toNat, by omega⟩
  obtain ⟨C, rfl⟩ : ∃ C : Nat, k = (C : Int) := ⟨k.toNat, by omega⟩
  have e1 : IntKind.u64.wrap (A : Int) = (A : Int) := wU (by omega)
  have e2 : IntKind.u64.wrap (B : Int) = (B : Int) := wU (by omega)
  have e3 : IntKind.u64.wrap (C : Int) = (C : Int) := wU (by omega)
  have hR : ofR up (A : Int) (B : Int) (C : Int) = (if 4000000000000000000 < A * B / C then (0, 5) else
      if 4000000000000000000 < A * B / C + (if up (A * B / C) (A * B % C) C = true then 1 else 0) then (0, 5)
      else (((A * B / C + (if up (A * B / C) (A * B % C) C = true then 1 else 0) : Nat) : Int), 0)) := by
    rw [ofR, if_neg h1, if_neg h2]; rfl
  have hm := Nat.div_add_mod (A * B) 18446744073709551616
  have hml : A * B % 18446744073709551616 < 18446744073709551616 := Nat.mod_lt _ (by omega)
  have hC0 : 0 < C := by omega
  simp only [e1, e2]
  repeat' first
      | (first
          | refine TR.p hP (by first | exact sMul64 A B (by omega) (by omega)) (by repeat' first | exact trivial | (intro _; assumption) | apply And.intro) ?_
          | refine TR.gp hP rfl (fun _ => by first | exact sMul64 A B (by omega) (by omega)) (fun _ => by repeat' first | exact trivial | (intro _; assumption) | apply And.intro) ?_
          | refine TR.pv hP rfl (by first | exact sMul64 A B (by omega) (by omega)) trivial (by repeat' first | exact trivial | (intro _; assumption) | apply And.intro) ?_
         try simp only [e3, vcC_seq, vcC_reg, vcC_skip, vcC_cond, vcC_ret, seqK_nrm, seqK_ret, nrmK_app, vcR_nil, vcR_n, isCall, makes, newOf, opR, binI, evS, evV, evX, Go.Bx.get, nth, St.stp, Ef.stp, lgs, setE, applyU, newN, List.length_cons, List.length_nil, Bool.false_eq_true, reduceCtorEq, ↓reduceIte, true_and, and_self, eq_self, Nat.reduceAdd, Nat.reduceEqDiff, Nat.zero_add, Nat.succ_ne_self, Nat.reduceLT])
      | refine And.intro (fun h => ?_) (fun h => ?_)
      | refine And.intro (by first | omega | (simp only [maxLen, decide_eq_true_eq, decide_eq_false_iff_not] at *; omega)) ?_
      | (refine TR.aslO rfl rfl rfl rfl trivial (Nat.le_of_ble_eq_true rfl) ?_
         try simp only [e1, e2, e3, ↓evSo_some, vcC_seq, vcC_reg, vcC_drw, vcC_skip, vcC_cond, vcC_block, vcC_exit, vcC_ret, vcC_bad, seqK_nrm, seqK_exit, seqK_ret, blkK_nrm, blkK_exit, blkK_ret, lopK_exit, lopK_ret, lopX_exit, lopX_ret, jmpK_nrm, jmpK_exit, jmpK_ret, nrmK_app, drwK_app, initE, vcR_nil, vcR_n, vcR_s, isCall, makes, hasU, slK, newOf, opR, binI, pickV, evS, evV, evX, evSs, evVs, evParts, evPartsS, fillV, catV, gOf, Go.Bx.get, Go.Bx.own?, cellsV, isCell, cut, cutD, nth, nthD, dropV, takeV, dropD, takeDV, putV, toDs, St.stp, Ef.stp, Stp.lg, lgs, setE, applyU, setO, delO, newN, keysO, callU, Ef.bad, Option.getD_some, Option.getD_none, Option.map_some, Option.map_none, List.all_cons, List.all_nil, List.map_cons, List.map_nil, List.append_nil, List.nil_append, List.cons_append, List.length_cons, List.length_nil, List.mem_cons, List.not_mem_nil, Bool.and_true, Bool.true_and, Bool.and_self, Bool.not_true, Bool.not_false, Bool.or_self, Bool.or_false, Bool.false_or, Bool.false_eq_true, Bool.true_eq_false, Bool.cond_true_left, Bool.cond_false_right, cond_true, cond_false, reduceCtorEq, ↓reduceIte, if_true, if_false, true_and, and_true, and_self, false_and, and_false, or_false, false_or, not_false_eq_true, not_true_eq_false, forall_const, true_implies, false_implies, implies_true, imp_self, eq_self, ne_eq, Nat.reduceAdd, Nat.reduceSub, Nat.reduceMul, Nat.reduceMod, Nat.reduceLeDiff, Nat.reduceEqDiff, Nat.zero_add, Nat.add_zero, Nat.le_refl, Nat.succ_ne_self, Nat.one_ne_zero, Nat.zero_ne_one, Int.toNat_natCast, litRow, List.drop_succ_cons, List.drop_zero, List.take_succ_cons, List.take_zero, pubE, pubV, pubL, pubO, pubFE, pubFV, pubFL, pubFO, delO, eqS, eqB, Nat.reduceLT, Nat.not_lt_zero, Nat.sub_zero, decide_true, decide_false, true_or, or_true, Int.le_refl, Int.cast_ofNat_Int, Int.reduceToNat, Int.reduceLT, Int.reduceLE, beq_self_eq_true, Nat.mul_one, Nat.one_mul, Nat.zero_mul])
      | refine And.intro trivial ?_
      | refine And.intro rfl ?_
      | fail
  · have h3 : 4000000000000000000 < A * B / C := by
      have h := of_decide_eq_true h
      have h4 : C ≤ A * B / 18446744073709551616 := by omega
      have h5 : C * 18446744073709551616 ≤ A * B := by
        have := (Nat.le_div_iff_mul_le (by omega)).1 h4; exact this
      have h6 : 18446744073709551616 ≤ A * B / C := (Nat.le_div_iff_mul_le hC0).2 (by omega)
      omega
    (refine RetK.pure (by simp only [rs57, ressS, resS, and_self]) (VLe.tups ?_); simp only [ressV, resV, Go.Bx.get, ↓reduceIte, eq_self, Nat.succ_ne_self])
    rw [hR, if_pos h3]; exact ⟨VLe.refl _, VLe.refl _, trivial⟩
  have hh : A * B / 18446744073709551616 < C := by have := of_decide_eq_false h; omega
  have hd := sDiv64 (A * B / 18446744073709551616) (A * B % 18446744073709551616) C hh hml (by omega)
  rw [show A * B / 18446744073709551616 * 18446744073709551616 + A * B % 18446744073709551616 = A * B by omega] at hd
  have hrC : A * B % C < C := Nat.mod_lt _ hC0
  generalize A * B / C = q at *
  generalize A * B % C = r at *
  repeat' first
      | (first
          | refine TR.p hP (by first | exact hd | exact hg q r C hrC (by omega)) (by repeat' first | exact trivial | (intro _; assumption) | apply And.intro) ?_
          | refine TR.gp hP rfl (fun _ => by first | exact hd | exact hg q r C hrC (by omega)) (fun _ => by repeat' first | exact trivial | (intro _; assumption) | apply And.intro) ?_
          | refine TR.pv hP rfl (by first | exact hd | exact hg q r C hrC (by omega)) trivial (by repeat' first | exact trivial | (intro _; assumption) | apply And.intro) ?_
         try simp only [e3, vcC_seq, vcC_reg, vcC_skip, vcC_cond, vcC_ret, seqK_nrm, seqK_ret, nrmK_app, vcR_nil, vcR_n, isCall, makes, newOf, opR, binI, evS, evV, evX, Go.Bx.get, Go.Bx.own?, cut, nth, St.stp, Ef.stp, lgs, setE, applyU, newN, List.length_cons, List.length_nil, Bool.false_eq_true, reduceCtorEq, ↓reduceIte, true_and, and_self, eq_self, Nat.reduceAdd, Nat.reduceEqDiff, Nat.zero_add, Nat.add_zero, Nat.le_refl, Nat.succ_ne_self, Nat.reduceLT])
      | refine And.intro (fun h => ?_) (fun h => ?_)
      | refine And.intro (by first | omega | (simp only [maxLen, decide_eq_true_eq, decide_eq_false_iff_not] at *; omega)) ?_
      | (refine TR.aslO rfl rfl rfl rfl trivial (Nat.le_of_ble_eq_true rfl) ?_
         try simp only [e1, e2, e3, ↓evSo_some, vcC_seq, vcC_reg, vcC_drw, vcC_skip, vcC_cond, vcC_block, vcC_exit, vcC_ret, vcC_bad, seqK_nrm, seqK_exit, seqK_ret, blkK_nrm, blkK_exit, blkK_ret, lopK_exit, lopK_ret, lopX_exit, lopX_ret, jmpK_nrm, jmpK_exit, jmpK_ret, nrmK_app, drwK_app, initE, vcR_nil, vcR_n, vcR_s, isCall, makes, hasU, slK, newOf, opR, binI, pickV, evS, evV, evX, evSs, evVs, evParts, evPartsS, fillV, catV, gOf, Go.Bx.get, Go.Bx.own?, cellsV, isCell, cut, cutD, nth, nthD, dropV, takeV, dropD, takeDV, putV, toDs, St.stp, Ef.stp, Stp.lg, lgs, setE, applyU, setO, delO, newN, keysO, callU, Ef.bad, Option.getD_some, Option.getD_none, Option.map_some, Option.map_none, List.all_cons, List.all_nil, List.map_cons, List.map_nil, List.append_nil, List.nil_append, List.cons_append, List.length_cons, List.length_nil, List.mem_cons, List.not_mem_nil, Bool.and_true, Bool.true_and, Bool.and_self, Bool.not_true, Bool.not_false, Bool.or_self, Bool.or_false, Bool.false_or, Bool.false_eq_true, Bool.true_eq_false, Bool.cond_true_left, Bool.cond_false_right, cond_true, cond_false, reduceCtorEq, ↓reduceIte, if_true, if_false, true_and, and_true, and_self, false_and, and_false, or_false, false_or, not_false_eq_true, not_true_eq_false, forall_const, true_implies, false_implies, implies_true, imp_self, eq_self, ne_eq, Nat.reduceAdd, Nat.reduceSub, Nat.reduceMul, Nat.reduceMod, Nat.reduceLeDiff, Nat.reduceEqDiff, Nat.zero_add, Nat.add_zero, Nat.le_refl, Nat.succ_ne_self, Nat.one_ne_zero, Nat.zero_ne_one, Int.toNat_natCast, litRow, List.drop_succ_cons, List.drop_zero, List.take_succ_cons, List.take_zero, pubE, pubV, pubL, pubO, pubFE, pubFV, pubFL, pubFO, delO, eqS, eqB, Nat.reduceLT, Nat.not_lt_zero, Nat.sub_zero, decide_true, decide_false, true_or, or_true, Int.le_refl, Int.cast_ofNat_Int, Int.reduceToNat, Int.reduceLT, Int.reduceLE, beq_self_eq_true, Nat.mul_one, Nat.one_mul, Nat.zero_mul])
      | refine And.intro trivial ?_
      | refine And.intro rfl ?_
      | fail
  · have h4 : 4000000000000000000 < q := by have := of_decide_eq_true h; omega
    (refine RetK.pure (by simp only [rs57, ressS, resS, and_self]) (VLe.tups ?_); simp only [ressV, resV, Go.Bx.get, ↓reduceIte, eq_self, Nat.succ_ne_self])
    rw [hR, if_pos h4]; exact ⟨VLe.refl _, VLe.refl _, trivial⟩
  · rename_i h5 h6
    have h4 : ¬ 4000000000000000000 < q := by have := of_decide_eq_false h5; omega
    have e4 : IntKind.u64.wrap ((q : Int) + 1) = ((q + 1 : Nat) : Int) := (wU (by omega)).trans (by omega)
    rw [e4] at h
    have h7 : 4000000000000000000 < q + 1 := by have := of_decide_eq_true h; omega
    (refine RetK.pure (by simp only [rs57, ressS, resS, and_self]) (VLe.tups ?_); simp only [ressV, resV, Go.Bx.get, ↓reduceIte, eq_self, Nat.succ_ne_self])
    rw [hR, if_neg h4, if_pos h6, if_pos h7]; exact ⟨VLe.refl _, VLe.refl _, trivial⟩
  · rename_i h5 h6
    have h4 : ¬ 4000000000000000000 < q := by have := of_decide_eq_false h5; omega
    have e4 : IntKind.u64.wrap ((q : Int) + 1) = ((q + 1 : Nat) : Int) := (wU (by omega)).trans (by omega)
    rw [e4] at h
    have h7 : ¬ 4000000000000000000 < q + 1 := by have := of_decide_eq_false h; omega
    (refine RetK.pure (by simp only [rs57, ressS, resS, and_self]) (VLe.tups ?_); simp only [ressV, resV, Go.Bx.get, ↓reduceIte, eq_self, Nat.succ_ne_self])
    rw [hR, if_neg h4, if_pos h6, if_neg h7, e4, wI (a := ((q + 1 : Nat) : Int)) (by omega)]; exact ⟨VLe.refl _, VLe.refl _, trivial⟩
  · rename_i h5 h6
    exfalso; rw [h5] at h; cases h
  · rename_i h5 h6
    have h4 : ¬ 4000000000000000000 < q := by have := of_decide_eq_false h5; omega
    have h8 : ¬ (up q r C = true) := by rw [h6]; simp
    (refine RetK.pure (by simp only [rs57, ressS, resS, and_self]) (VLe.tups ?_); simp only [ressV, resV, Go.Bx.get, ↓reduceIte, eq_self, Nat.succ_ne_self])
    rw [hR, if_neg h4, if_neg h8, Nat.add_zero, if_neg h4, wI (a := (q : Int)) (by omega)]; exact ⟨VLe.refl _, VLe.refl _, trivial⟩
end Go.Proofs.Ythkfedghiklmeaa
