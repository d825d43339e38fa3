import Derived.Test.YtkifajabiggfmaaXD8
import Derived.Lib.Mul64
section
set_option linter.unusedSimpArgs false
set_option linter.unusedVariables false
namespace Go.Proofs.Ytkifajabiggfmaa
set_option linter.unusedSimpArgs false
set_option linter.unusedVariables false
open Go.Bx
set_option maxRecDepth 10000
theorem wU {a : Int} (h : 0 ≤ a ∧ a ≤ 18446744073709551615) : IntKind.u64.wrap a = a := by rw [IntKind.wrap_u64]; omega
def orU (a b : Int) : Int := IntKind.u64.wrap ((BitVec.ofInt IntKind.u64.bits a ||| BitVec.ofInt IntKind.u64.bits b).toNat : Int)
theorem orU_add (a i b : Nat) (h1 : a * 2 ^ i < 18446744073709551616) (h2 : b < 2 ^ i) (h3 : b < 18446744073709551616) : orU ((a * 2 ^ i : Nat) : Int) (b : Int) = ((a * 2 ^ i + b : Nat) : Int) := by
  have e0 : ∀ x : Nat, x < 18446744073709551616 → (BitVec.ofInt IntKind.u64.bits (x : Int)).toNat = x := fun x hx => by simp [IntKind.bits]; omega
  have h4 : (BitVec.ofInt IntKind.u64.bits ((a * 2 ^ i : Nat) : Int) ||| BitVec.ofInt IntKind.u64.bits (b : Int)).toNat = a * 2 ^ i + b := by
    rw [BitVec.toNat_or, e0 _ h1, e0 _ h3, ← Nat.shiftLeft_eq, Nat.shiftLeft_add_eq_or_of_lt h2]
  have h5 : a * 2 ^ i + b < 18446744073709551616 := by
    rw [← h4]; exact (BitVec.ofInt IntKind.u64.bits ((a * 2 ^ i : Nat) : Int) ||| BitVec.ofInt IntKind.u64.bits (b : Int)).isLt
  rw [orU, h4, wU (by omega)]
theorem fdiv_nat (a b : Nat) : (a : Int).fdiv (b : Int) = ((a / b : Nat) : Int) := by
  cases b with
  | zero => simp
  | succ b => rw [Int.fdiv_eq_ediv_of_nonneg _ (by omega)]; simp
theorem tdiv_nat (a b : Nat) : (a : Int).tdiv (b : Int) = ((a / b : Nat) : Int) := by
  rw [Int.tdiv_eq_ediv_of_nonneg (by omega)]; simp
theorem tmod_nat (a b : Nat) : (a : Int).tmod (b : Int) = ((a % b : Nat) : Int) := by
  rw [Int.tmod_eq_emod_of_nonneg (by omega)]; simp
def blen (x : Nat) : Nat := if x = 0 then 0 else Nat.log2 x + 1
theorem blen_eq {x n : Nat} (h1 : 2 ^ n ≤ x) (h2 : x < 2 ^ (n + 1)) : blen x = n + 1 := by
  have hx : x ≠ 0 := fun e => by have := Nat.two_pow_pos n; omega
  rw [blen, if_neg hx, (Nat.log2_eq_iff hx).2 ⟨h1, h2⟩]
theorem blen_spec {x : Nat} (h : x ≠ 0) : ∃ n, blen x = n + 1 ∧ 2 ^ n ≤ x ∧ x < 2 ^ (n + 1) :=
  ⟨Nat.log2 x, by rw [blen, if_neg h], ((Nat.log2_eq_iff h).1 rfl).1, ((Nat.log2_eq_iff h).1 rfl).2⟩
theorem blen_shift {x k : Nat} (h : 2 ^ k ≤ x) : blen x = blen (x / 2 ^ k) + k := by
  have h0 : 0 < x / 2 ^ k := Nat.div_pos h (Nat.two_pow_pos k)
  obtain ⟨n, h1, h2, h3⟩ := blen_spec (x := x / 2 ^ k) (by omega)
  rw [h1]
  have h4 : 2 ^ n * 2 ^ k ≤ x := (Nat.le_div_iff_mul_le (Nat.two_pow_pos k)).1 h2
  have h5 : x < 2 ^ (n + 1) * 2 ^ k := (Nat.div_lt_iff_lt_mul (Nat.two_pow_pos k)).1 h3
  rw [← Nat.pow_add] at h4 h5
  rw [blen_eq (n := n + k) h4 (by rw [show n + k + 1 = n + 1 + k by omega]; exact h5)]
  omega
theorem wUn (n : Nat) : IntKind.u64.wrap (n : Int) = ((n % 18446744073709551616 : Nat) : Int) := by rw [IntKind.wrap_u64]; omega
theorem andN (x : Nat) : (BitVec.ofInt IntKind.u64.bits (x : Int) &&& BitVec.ofInt IntKind.u64.bits 4294967295).toNat = x % 4294967296 := by
  rw [BitVec.toNat_and]
  have e1 : (BitVec.ofInt IntKind.u64.bits (x : Int)).toNat = x % 18446744073709551616 := by
    simp [IntKind.bits]
  have e2 : (BitVec.ofInt IntKind.u64.bits 4294967295).toNat = 2 ^ 32 - 1 := by decide +kernel
  rw [e1, e2, Nat.and_two_pow_sub_one_eq_mod]; omega
theorem p32 : (2 : Int) ^ min 32 IntKind.u64.bits = 4294967296 := by decide +kernel
theorem fdivL (n : Nat) : (n : Int).fdiv 4294967296 = ((n / 4294967296 : Nat) : Int) := fdiv_nat n 4294967296
theorem p16 : (2 : Int) ^ min 16 IntKind.u64.bits = 65536 := by decide +kernel
theorem p8 : (2 : Int) ^ min 8 IntKind.u64.bits = 256 := by decide +kernel
theorem fdivM (n : Nat) : (n : Int).fdiv 65536 = ((n / 65536 : Nat) : Int) := fdiv_nat n 65536
theorem fdivS (n : Nat) : (n : Int).fdiv 256 = ((n / 256 : Nat) : Int) := fdiv_nat n 256
theorem sMul64 (x y : Nat) (hx : x < 18446744073709551616) (hy : y < 18446744073709551616) : Ctr Try.prog 70 [.d (.int .u64 x), .d (.int .u64 y)] [] (.tup [.d (.int .u64 ((x * y / 18446744073709551616 : Nat) : Int)), .d (.int .u64 ((x * y % 18446744073709551616 : Nat) : Int))]) [] [] := by
  refine ctr_pure Try.func70 ok70 rfl cc70 cr70 Try.ntmps70 (by simp) rfl rfl ?_; intro c hP hfn; simp only [kc70, andN, p32, fdivL, ← Int.natCast_mul, ← Int.natCast_add, wUn, vcb, ↓evSo_some, ↓reduceIte, reduceCtorEq, seval]
  have hm := Go.Lib.mul64_hi x y hx hy
  have ha := Go.Lib.half_mul_le (a := x / 4294967296) (b := y / 4294967296) (by omega) (by omega)
  have hb := Go.Lib.half_mul_le (a := x / 4294967296) (b := y % 4294967296) (by omega) (by omega)
  have hc := Go.Lib.half_mul_le (a := x % 4294967296) (b := y / 4294967296) (by omega) (by omega)
  have hd := Go.Lib.half_mul_le (a := x % 4294967296) (b := y % 4294967296) (by omega) (by omega)
  (refine RetK.pure (by simp only [rs70, rsb, vcb, ↓evSo_some, ↓reduceIte, reduceCtorEq, seval]) (VLe.tups ?_); simp only [rs70, rsb, vcb, ↓evSo_some, ↓reduceIte, reduceCtorEq, seval])
  refine ⟨VLe.int (congrArg Int.ofNat ?_), VLe.int rfl, trivial⟩
  have e1 : x % 4294967296 % 18446744073709551616 = x % 4294967296 := by omega
  have e2 : y % 4294967296 % 18446744073709551616 = y % 4294967296 := by omega
  rw [e1, e2]
  generalize (x / 4294967296) * (y / 4294967296) = a at *
  generalize (x / 4294967296) * (y % 4294967296) = b at *
  generalize (x % 4294967296) * (y / 4294967296) = c at *
  generalize (x % 4294967296) * (y % 4294967296) = d at *
  generalize x * y / 18446744073709551616 = z at *
  omega
def tab : ByteArray := ⟨#[0, 1, 2, 2, 3, 3, 3, 3, 4, 4, 4, 4, 4, 4, 4, 4, 5, 5, 5, 5, 5, 5, 5, 5, 5, 5, 5, 5, 5, 5, 5, 5, 6, 6, 6, 6, 6, 6, 6, 6, 6, 6, 6, 6, 6, 6, 6, 6, 6, 6, 6, 6, 6, 6, 6, 6, 6, 6, 6, 6, 6, 6, 6, 6, 7, 7, 7, 7, 7, 7, 7, 7, 7, 7, 7, 7, 7, 7, 7, 7, 7, 7, 7, 7, 7, 7, 7, 7, 7, 7, 7, 7, 7, 7, 7, 7, 7, 7, 7, 7, 7, 7, 7, 7, 7, 7, 7, 7, 7, 7, 7, 7, 7, 7, 7, 7, 7, 7, 7, 7, 7, 7, 7, 7, 7, 7, 7, 7, 8, 8, 8, 8, 8, 8, 8, 8, 8, 8, 8, 8, 8, 8, 8, 8, 8, 8, 8, 8, 8, 8, 8, 8, 8, 8, 8, 8, 8, 8, 8, 8, 8, 8, 8, 8, 8, 8, 8, 8, 8, 8, 8, 8, 8, 8, 8, 8, 8, 8, 8, 8, 8, 8, 8, 8, 8, 8, 8, 8, 8, 8, 8, 8, 8, 8, 8, 8, 8, 8, 8, 8, 8, 8, 8, 8, 8, 8, 8, 8, 8, 8, 8, 8, 8, 8, 8, 8, 8, 8, 8, 8, 8, 8, 8, 8, 8, 8, 8, 8, 8, 8, 8, 8, 8, 8, 8, 8, 8, 8, 8, 8, 8, 8, 8, 8, 8, 8, 8, 8, 8, 8, 8, 8, 8, 8, 8, 8]⟩
theorem tab_ok : ∀ z : Nat, z < 256 → sAt tab z = ((blen z : Nat) : Int) := by
  have h : ((List.range 256).all fun z => sAt tab z == ((blen z : Nat) : Int)) = true := by decide +kernel
  intro z hz
  exact eq_of_beq (List.all_eq_true.1 h z (by simpa using hz))
theorem u8n {z : Nat} (h : z < 256) : IntKind.u8.wrap (z : Int) = (z : Int) := by rw [IntKind.wrap_u8]; omega
theorem blen_256 {z : Nat} (h : z < 256) : blen z ≤ 8 := by
  by_cases h0 : z = 0
  · subst h0; simp [blen]
  · obtain ⟨n, h1, h2, h3⟩ := blen_spec h0
    rw [h1]
    have : n < 8 := (Nat.pow_lt_pow_iff_right (show 1 < 2 by omega)).1 (show 2 ^ n < 2 ^ 8 by omega)
    omega
theorem sLen64 (x : Nat) (hx : x < 18446744073709551616) : Ctr Try.prog 73 [.d (.int .u64 x)] [] (.d (.int .i64 ((blen x : Nat) : Int))) [] [] := by
  refine ctr_pure Try.func73 ok73 rfl cc73 cr73 Try.ntmps73 (by simp) rfl rfl ?_; intro c hP hfn; simp only [kc73, p32, p16, p8, fdivL, fdivM, fdivS, ← Int.natCast_mul, ← Int.natCast_add, wUn, vcb, ↓evSo_some, ↓reduceIte, reduceCtorEq, seval]
  repeat' first
      | refine And.intro (fun h => ?_) (fun h => ?_)
      | refine And.intro (by first | omega | (simp only [maxLen, decide_eq_true_eq, decide_eq_false_iff_not] at *; omega)) ?_
      | (refine TR.aslO rfl rfl rfl rfl trivial (Nat.le_of_ble_eq_true rfl) ?_
         try simp only [p32, p16, p8, fdivL, fdivM, fdivS, ← Int.natCast_mul, ← Int.natCast_add, wUn, vcb, ↓evSo_some, ↓reduceIte, reduceCtorEq, seval])
      | refine And.intro trivial ?_
      | refine And.intro rfl ?_
      | fail
  · simp only [ge_iff_le, decide_eq_true_eq, decide_eq_false_iff_not, Int.not_le] at *
    have hz : x / 4294967296 / 65536 / 256 < 256 := by omega
    have q32 := blen_shift (x := x) (k := 32) (by omega)
    rw [show (2 : Nat) ^ 32 = 4294967296 from rfl] at q32
    have q16 := blen_shift (x := x / 4294967296) (k := 16) (by omega)
    rw [show (2 : Nat) ^ 16 = 65536 from rfl] at q16
    have q8 := blen_shift (x := x / 4294967296 / 65536) (k := 8) (by omega)
    rw [show (2 : Nat) ^ 8 = 256 from rfl] at q8
    have e := u8n hz
    have et := tab_ok _ hz
    have hb := blen_256 hz
    rw [e]
    refine And.intro ⟨by omega, (show (((x / 4294967296 / 65536 / 256 : Nat) : Int) < 256) by omega)⟩ ?_
    exact RetK.pure (by simp only [rs73, rsb, vcb, ↓evSo_some, ↓reduceIte, reduceCtorEq, seval]) (by (simp only [rs73, rsb, vcb, ↓evSo_some, ↓reduceIte, reduceCtorEq, seval, enb, vcb, ↓evSo_some, ↓reduceIte, reduceCtorEq, seval]) <;> (first | (change IntKind.i64.wrap (_ + IntKind.i64.wrap (sAt tab (x / 4294967296 / 65536 / 256))) = _; rw [et, wI (a := ((blen (x / 4294967296 / 65536 / 256) : Nat) : Int)) (by omega)]; rw [q32, q16, q8]; generalize blen (x / 4294967296 / 65536 / 256) = w at *; simp only [IntKind.wrap_i64]; omega)))
  · simp only [ge_iff_le, decide_eq_true_eq, decide_eq_false_iff_not, Int.not_le] at *
    have hz : x / 4294967296 / 65536 < 256 := by omega
    have q32 := blen_shift (x := x) (k := 32) (by omega)
    rw [show (2 : Nat) ^ 32 = 4294967296 from rfl] at q32
    have q16 := blen_shift (x := x / 4294967296) (k := 16) (by omega)
    rw [show (2 : Nat) ^ 16 = 65536 from rfl] at q16
    have e := u8n hz
    have et := tab_ok _ hz
    have hb := blen_256 hz
    rw [e]
    refine And.intro ⟨by omega, (show (((x / 4294967296 / 65536 : Nat) : Int) < 256) by omega)⟩ ?_
    exact RetK.pure (by simp only [rs73, rsb, vcb, ↓evSo_some, ↓reduceIte, reduceCtorEq, seval]) (by (simp only [rs73, rsb, vcb, ↓evSo_some, ↓reduceIte, reduceCtorEq, seval, enb, vcb, ↓evSo_some, ↓reduceIte, reduceCtorEq, seval]) <;> (first | (change IntKind.i64.wrap (_ + IntKind.i64.wrap (sAt tab (x / 4294967296 / 65536))) = _; rw [et, wI (a := ((blen (x / 4294967296 / 65536) : Nat) : Int)) (by omega)]; rw [q32, q16]; generalize blen (x / 4294967296 / 65536) = w at *; simp only [IntKind.wrap_i64]; omega)))
  · simp only [ge_iff_le, decide_eq_true_eq, decide_eq_false_iff_not, Int.not_le] at *
    have hz : x / 4294967296 / 256 < 256 := by omega
    have q32 := blen_shift (x := x) (k := 32) (by omega)
    rw [show (2 : Nat) ^ 32 = 4294967296 from rfl] at q32
    have q8 := blen_shift (x := x / 4294967296) (k := 8) (by omega)
    rw [show (2 : Nat) ^ 8 = 256 from rfl] at q8
    have e := u8n hz
    have et := tab_ok _ hz
    have hb := blen_256 hz
    rw [e]
    refine And.intro ⟨by omega, (show (((x / 4294967296 / 256 : Nat) : Int) < 256) by omega)⟩ ?_
    exact RetK.pure (by simp only [rs73, rsb, vcb, ↓evSo_some, ↓reduceIte, reduceCtorEq, seval]) (by (simp only [rs73, rsb, vcb, ↓evSo_some, ↓reduceIte, reduceCtorEq, seval, enb, vcb, ↓evSo_some, ↓reduceIte, reduceCtorEq, seval]) <;> (first | (change IntKind.i64.wrap (_ + IntKind.i64.wrap (sAt tab (x / 4294967296 / 256))) = _; rw [et, wI (a := ((blen (x / 4294967296 / 256) : Nat) : Int)) (by omega)]; rw [q32, q8]; generalize blen (x / 4294967296 / 256) = w at *; simp only [IntKind.wrap_i64]; omega)))
  · simp only [ge_iff_le, decide_eq_true_eq, decide_eq_false_iff_not, Int.not_le] at *
    have hz : x / 4294967296 < 256 := by omega
    have q32 := blen_shift (x := x) (k := 32) (by omega)
    rw [show (2 : Nat) ^ 32 = 4294967296 from rfl] at q32
    have e := u8n hz
    have et := tab_ok _ hz
    have hb := blen_256 hz
    rw [e]
    refine And.intro ⟨by omega, (show (((x / 4294967296 : Nat) : Int) < 256) by omega)⟩ ?_
    exact RetK.pure (by simp only [rs73, rsb, vcb, ↓evSo_some, ↓reduceIte, reduceCtorEq, seval]) (by (simp only [rs73, rsb, vcb, ↓evSo_some, ↓reduceIte, reduceCtorEq, seval, enb, vcb, ↓evSo_some, ↓reduceIte, reduceCtorEq, seval]) <;> (first | (change IntKind.i64.wrap (_ + IntKind.i64.wrap (sAt tab (x / 4294967296))) = _; rw [et, wI (a := ((blen (x / 4294967296) : Nat) : Int)) (by omega)]; rw [q32]; generalize blen (x / 4294967296) = w at *; simp only [IntKind.wrap_i64]; omega)))
  · simp only [ge_iff_le, decide_eq_true_eq, decide_eq_false_iff_not, Int.not_le] at *
    have hz : x / 65536 / 256 < 256 := by omega
    have q16 := blen_shift (x := x) (k := 16) (by omega)
    rw [show (2 : Nat) ^ 16 = 65536 from rfl] at q16
    have q8 := blen_shift (x := x / 65536) (k := 8) (by omega)
    rw [show (2 : Nat) ^ 8 = 256 from rfl] at q8
    have e := u8n hz
    have et := tab_ok _ hz
    have hb := blen_256 hz
    rw [e]
    refine And.intro ⟨by omega, (show (((x / 65536 / 256 : Nat) : Int) < 256) by omega)⟩ ?_
    exact RetK.pure (by simp only [rs73, rsb, vcb, ↓evSo_some, ↓reduceIte, reduceCtorEq, seval]) (by (simp only [rs73, rsb, vcb, ↓evSo_some, ↓reduceIte, reduceCtorEq, seval, enb, vcb, ↓evSo_some, ↓reduceIte, reduceCtorEq, seval]) <;> (first | (change IntKind.i64.wrap (_ + IntKind.i64.wrap (sAt tab (x / 65536 / 256))) = _; rw [et, wI (a := ((blen (x / 65536 / 256) : Nat) : Int)) (by omega)]; rw [q16, q8]; generalize blen (x / 65536 / 256) = w at *; simp only [IntKind.wrap_i64]; omega)))
  · simp only [ge_iff_le, decide_eq_true_eq, decide_eq_false_iff_not, Int.not_le] at *
    have hz : x / 65536 < 256 := by omega
    have q16 := blen_shift (x := x) (k := 16) (by omega)
    rw [show (2 : Nat) ^ 16 = 65536 from rfl] at q16
    have e := u8n hz
    have et := tab_ok _ hz
    have hb := blen_256 hz
    rw [e]
    refine And.intro ⟨by omega, (show (((x / 65536 : Nat) : Int) < 256) by omega)⟩ ?_
    exact RetK.pure (by simp only [rs73, rsb, vcb, ↓evSo_some, ↓reduceIte, reduceCtorEq, seval]) (by (simp only [rs73, rsb, vcb, ↓evSo_some, ↓reduceIte, reduceCtorEq, seval, enb, vcb, ↓evSo_some, ↓reduceIte, reduceCtorEq, seval]) <;> (first | (change IntKind.i64.wrap (_ + IntKind.i64.wrap (sAt tab (x / 65536))) = _; rw [et, wI (a := ((blen (x / 65536) : Nat) : Int)) (by omega)]; rw [q16]; generalize blen (x / 65536) = w at *; simp only [IntKind.wrap_i64]; omega)))
  · simp only [ge_iff_le, decide_eq_true_eq, decide_eq_false_iff_not, Int.not_le] at *
    have hz : x / 256 < 256 := by omega
    have q8 := blen_shift (x := x) (k := 8) (by omega)
    rw [show (2 : Nat) ^ 8 = 256 from rfl] at q8
    have e := u8n hz
    have et := tab_ok _ hz
    have hb := blen_256 hz
    rw [e]
    refine And.intro ⟨by omega, (show (((x / 256 : Nat) : Int) < 256) by omega)⟩ ?_
    exact RetK.pure (by simp only [rs73, rsb, vcb, ↓evSo_some, ↓reduceIte, reduceCtorEq, seval]) (by (simp only [rs73, rsb, vcb, ↓evSo_some, ↓reduceIte, reduceCtorEq, seval, enb, vcb, ↓evSo_some, ↓reduceIte, reduceCtorEq, seval]) <;> (first | (change IntKind.i64.wrap (_ + IntKind.i64.wrap (sAt tab (x / 256))) = _; rw [et, wI (a := ((blen (x / 256) : Nat) : Int)) (by omega)]; rw [q8]; generalize blen (x / 256) = w at *; simp only [IntKind.wrap_i64]; omega)))
  · simp only [ge_iff_le, decide_eq_true_eq, decide_eq_false_iff_not, Int.not_le] at *
    have hz : x < 256 := by omega
    have e := u8n hz
    have et := tab_ok _ hz
    have hb := blen_256 hz
    rw [e]
    refine And.intro ⟨by omega, (show (((x : Nat) : Int) < 256) by omega)⟩ ?_
    exact RetK.pure (by simp only [rs73, rsb, vcb, ↓evSo_some, ↓reduceIte, reduceCtorEq, seval]) (by (simp only [rs73, rsb, vcb, ↓evSo_some, ↓reduceIte, reduceCtorEq, seval, enb, vcb, ↓evSo_some, ↓reduceIte, reduceCtorEq, seval]) <;> (first | (change IntKind.i64.wrap (_ + IntKind.i64.wrap (sAt tab (x))) = _; rw [et, wI (a := ((blen (x) : Nat) : Int)) (by omega)]; generalize blen (x) = w at *; simp only [IntKind.wrap_i64]; omega)))
theorem sLZ (x : Nat) (hx : x < 18446744073709551616) : Ctr Try.prog 72 [.d (.int .u64 x)] [] (.d (.int .i64 ((64 - blen x : Nat) : Int))) [] [] := by
  have hb : blen x ≤ 64 := by
    by_cases h0 : x = 0
    · subst h0; simp [blen]
    · obtain ⟨n, h1, h2, h3⟩ := blen_spec h0
      rw [h1]
      have : n < 64 := (Nat.pow_lt_pow_iff_right (show 1 < 2 by omega)).1 (show 2 ^ n < 2 ^ 64 by omega)
      omega
  refine ctr_pure Try.func72 ok72 rfl cc72 cr72 Try.ntmps72 (by simp) rfl rfl ?_; intro c hP hfn; simp only [kc72, vcb, ↓evSo_some, ↓reduceIte, reduceCtorEq, seval]
  repeat' first
      | (first
          | refine TR.p hP (by first | exact sLen64 x hx) (by repeat' first | exact trivial | (intro _; assumption) | apply And.intro) ?_
          | refine TR.gp hP rfl (fun _ => by first | exact sLen64 x hx) (fun _ => by repeat' first | exact trivial | (intro _; assumption) | apply And.intro) ?_
          | refine TR.pv hP rfl (by first | exact sLen64 x hx) trivial (by repeat' first | exact trivial | (intro _; assumption) | apply And.intro) ?_
         try simp only [vcb, ↓evSo_some, ↓reduceIte, reduceCtorEq, seval])
      | refine And.intro (fun h => ?_) (fun h => ?_)
      | refine And.intro (by first | omega | (simp only [maxLen, decide_eq_true_eq, decide_eq_false_iff_not] at *; omega)) ?_
      | (refine TR.aslO rfl rfl rfl rfl trivial (Nat.le_of_ble_eq_true rfl) ?_
         try simp only [vcb, ↓evSo_some, ↓reduceIte, reduceCtorEq, seval])
      | refine And.intro trivial ?_
      | refine And.intro rfl ?_
      | fail
  exact RetK.pure (by simp only [rs72, rsb, vcb, ↓evSo_some, ↓reduceIte, reduceCtorEq, seval]) (by (simp only [rs72, rsb, vcb, ↓evSo_some, ↓reduceIte, reduceCtorEq, seval, enb, vcb, ↓evSo_some, ↓reduceIte, reduceCtorEq, seval]) <;> (first | (rw [wI (by omega)]; omega)))
theorem kn_dec {u d v v1 v0 q r : Nat} (hv : v = v1 * 4294967296 + v0) (hu : u < v) (hd : d < 4294967296) (e : u = q * v1 + r) (hc : 4294967296 ≤ q ∨ 4294967296 * r + d < q * v0) : (u * 4294967296 + d) / v < q := by
  rw [Nat.div_lt_iff_lt_mul (by omega)]
  rcases hc with h | h
  · have h1 : 4294967296 * v ≤ q * v := Nat.mul_le_mul_right _ h
    omega
  · have h1 : q * v = q * v1 * 4294967296 + q * v0 := by rw [hv, Nat.mul_add, Nat.mul_assoc]
    omega
theorem kn_le {u d v v1 v0 q r : Nat} (hv : v = v1 * 4294967296 + v0) (h0 : 0 < v) (e : u = q * v1 + r) (h : q * v0 ≤ 4294967296 * r + d) : q ≤ (u * 4294967296 + d) / v := by
  rw [Nat.le_div_iff_mul_le h0]
  have h1 : q * v = q * v1 * 4294967296 + q * v0 := by rw [hv, Nat.mul_add, Nat.mul_assoc]
  omega
theorem kn_lo {u d v v1 v0 : Nat} (hv : v = v1 * 4294967296 + v0) (h1 : 0 < v1) (hd : d < 4294967296) : (u * 4294967296 + d) / v ≤ u / v1 := by
  rw [Nat.le_div_iff_mul_le h1]
  have h2 := Nat.div_mul_le_self (u * 4294967296 + d) v
  generalize (u * 4294967296 + d) / v = X at *
  have h3 : X * v = X * v1 * 4294967296 + X * v0 := by rw [hv, Nat.mul_add, Nat.mul_assoc]
  generalize X * v1 = a at *
  omega
theorem kn_start {u v v1 v0 : Nat} (hv : v = v1 * 4294967296 + v0) (h1 : 2147483648 ≤ v1) (h0 : v0 < 4294967296) (hu : u < v) : u / v1 ≤ 4294967297 := by
  have : u / v1 < 4294967298 := by
    rw [Nat.div_lt_iff_lt_mul (by omega)]
    omega
  omega
theorem kn_brk {u d v v1 v0 q r : Nat} (hv : v = v1 * 4294967296 + v0) (h0 : v0 < 4294967296) (hv0 : 0 < v) (e : u = q * v1 + r) (hq : q ≤ 4294967296) (hr : 4294967296 ≤ r) : q ≤ (u * 4294967296 + d) / v := by
  refine kn_le hv hv0 e ?_
  have : q * v0 ≤ 4294967296 * v0 := Nat.mul_le_mul_right _ hq
  omega
theorem kn_join {u d d0 t p q w z : Nat} (h1 : u * 4294967296 + d = p + w) (h2 : w * 4294967296 + d0 = q + z) (ht : t = d * 4294967296 + d0) : u * 18446744073709551616 + t = p * 4294967296 + q + z := by
  rw [ht, show (18446744073709551616 : Nat) = 4294967296 * 4294967296 from rfl, ← Nat.mul_assoc, ← Nat.add_assoc, ← Nat.add_mul, h1, Nat.add_mul, Nat.add_assoc, h2, Nat.add_assoc]
theorem g1 (u v1 : Nat) (hu : u < 18446744073709551616) : IntKind.u64.wrap ((u / v1 : Nat) : Int) = ((u / v1 : Nat) : Int) := by
  rw [wUn, Nat.mod_eq_of_lt (Nat.lt_of_le_of_lt (Nat.div_le_self u v1) hu)]
theorem g2 (u v1 : Nat) (hu : u < 18446744073709551616) : IntKind.u64.wrap (((u / v1 : Nat) : Int) * (v1 : Int)) = ((u / v1 * v1 : Nat) : Int) := by
  have := Nat.div_mul_le_self u v1
  rw [← Int.natCast_mul, wU (by omega)]
theorem g3 (u v1 : Nat) (hu : u < 18446744073709551616) : IntKind.u64.wrap ((u : Int) - ((u / v1 * v1 : Nat) : Int)) = ((u % v1 : Nat) : Int) := by
  have h1 := Nat.div_mul_le_self u v1
  have h2 := Nat.div_add_mod' u v1
  have : u % v1 ≤ u := Nat.mod_le u v1
  exact (wU (by omega)).trans (by omega)
theorem g4 (u d v q w : Nat) (hw : w < 18446744073709551616) (e : u * 4294967296 + d = q * v + w) :
    IntKind.u64.wrap (IntKind.u64.wrap (IntKind.u64.wrap ((u : Int) * 4294967296) + (d : Int)) - IntKind.u64.wrap ((q : Int) * (v : Int))) = (w : Int) := by
  rw [← Int.natCast_mul]
  generalize q * v = p at *
  simp only [IntKind.wrap_u64]
  omega
theorem gm (x : Nat) : IntKind.u64.wrap ((x % 4294967296 : Nat) : Int) = ((x % 4294967296 : Nat) : Int) := by rw [wU (by omega)]
structure KnI (u d v v1 v0 q r : Nat) : Prop where
  lo : (u * 4294967296 + d) / v ≤ q
  hi : q ≤ 4294967297
  e : u = q * v1 + r
  r : r < 4294967296
theorem kn_cond {d v0 q r : Nat} (hd : d < 4294967296) (h0 : v0 < 4294967296) (hr : r < 4294967296) :
    ((decide ((q : Int) ≥ 4294967296) || decide (IntKind.u64.wrap ((q : Int) * (v0 : Int)) > IntKind.u64.wrap (IntKind.u64.wrap (4294967296 * (r : Int)) + (d : Int)))) = true) ↔ (4294967296 ≤ q ∨ 4294967296 * r + d < q * v0) := by
  by_cases hq : 4294967296 ≤ q
  · have : (q : Int) ≥ 4294967296 := by omega
    simp [this, hq]
  · have h1 : q * v0 ≤ 4294967295 * 4294967295 := Nat.mul_le_mul (by omega) (by omega)
    have h2 : ¬ ((q : Int) ≥ 4294967296) := by omega
    rw [← Int.natCast_mul, wU (a := ((q * v0 : Nat) : Int)) (by omega), wU (a := 4294967296 * (r : Int)) (by omega), wU (by omega)]
    simp only [h2, decide_false, Bool.false_or, decide_eq_true_eq, hq, false_or]
    omega
theorem sDiv64 (hi lo y : Nat) (hh : hi < y) (hl : lo < 18446744073709551616) (hy : y < 18446744073709551616) : Ctr Try.prog 71 [.d (.int .u64 hi), .d (.int .u64 lo), .d (.int .u64 y)] []
    (.tup [.d (.int .u64 (((hi * 18446744073709551616 + lo) / y : Nat) : Int)), .d (.int .u64 (((hi * 18446744073709551616 + lo) % y : Nat) : Int))]) [] [] := by
  obtain ⟨n, b1, b2, b3⟩ := blen_spec (x := y) (by omega)
  have hn : n < 64 := (Nat.pow_lt_pow_iff_right (show 1 < 2 by omega)).1 (show 2 ^ n < 2 ^ 64 by omega)
  have hs : 64 - blen y = 63 - n := by omega
  have lz := sLZ y hy
  rw [hs] at lz
  obtain ⟨sh, hsd⟩ : ∃ sh, 63 - n = sh := ⟨_, rfl⟩
  rw [hsd] at lz
  obtain ⟨P, hP2⟩ : ∃ P, 2 ^ sh = P := ⟨_, rfl⟩
  obtain ⟨Q, hQ2⟩ : ∃ Q, 2 ^ (64 - sh) = Q := ⟨_, rfl⟩
  have hP0 : 0 < P := hP2 ▸ Nat.two_pow_pos sh
  have hQ0 : 0 < Q := hQ2 ▸ Nat.two_pow_pos _
  have hPQ : Q * P = 18446744073709551616 := by
    rw [← hP2, ← hQ2, ← Nat.pow_add, show 64 - sh + sh = 64 by omega]
  obtain ⟨v, hv⟩ : ∃ v, y * P = v := ⟨_, rfl⟩
  have v63 : 9223372036854775808 ≤ v := by
    have h1 : 2 ^ n * P ≤ y * P := Nat.mul_le_mul_right _ b2
    rw [← hP2, ← Nat.pow_add, show n + sh = 63 by omega, hP2, hv] at h1
    exact h1
  have v64 : v < 18446744073709551616 := by
    have h1 : y * P < 2 ^ (n + 1) * P := Nat.mul_lt_mul_of_pos_right b3 hP0
    rw [← hP2, ← Nat.pow_add, show n + 1 + sh = 64 by omega, hP2, hv] at h1
    exact h1
  obtain ⟨g, hg⟩ : ∃ g, lo / Q = g := ⟨_, rfl⟩
  obtain ⟨t, ht⟩ : ∃ t, lo * P % 18446744073709551616 = t := ⟨_, rfl⟩
  have hgP : g < P := by
    rw [← hg, Nat.div_lt_iff_lt_mul hQ0, Nat.mul_comm, hPQ]; exact hl
  have hlo : lo * P = g * 18446744073709551616 + t := by
    have h1 := Nat.div_add_mod (lo * P) 18446744073709551616
    have h2 : lo * P / 18446744073709551616 = g := by rw [← hPQ, Nat.mul_div_mul_right _ _ hP0, hg]
    rw [h2, ht] at h1; omega
  obtain ⟨u, hu⟩ : ∃ u, hi * P + g = u := ⟨_, rfl⟩
  have ht64 : t < 18446744073709551616 := by rw [← ht]; exact Nat.mod_lt _ (by omega)
  have hN : (hi * 18446744073709551616 + lo) * P = u * 18446744073709551616 + t := by
    rw [Nat.add_mul, hlo, ← hu, Nat.mul_right_comm]; omega
  have huv : u < v := by
    have h1 : (hi * 18446744073709551616 + lo) < y * 18446744073709551616 := by omega
    have h2 : (hi * 18446744073709551616 + lo) * P < y * 18446744073709551616 * P := Nat.mul_lt_mul_of_pos_right h1 hP0
    rw [hN, Nat.mul_right_comm, hv] at h2
    omega
  have hhP : hi * P < 18446744073709551616 := by omega
  have e1 : IntKind.u64.wrap (sh : Int) = (sh : Int) := wU (by omega)
  have e2 : (2 : Int) ^ min sh IntKind.u64.bits = (P : Int) := by
    rw [show min sh IntKind.u64.bits = sh from Nat.min_eq_left (show sh ≤ 64 by omega), ← hP2]; simp
  have e3 : IntKind.u64.wrap ((y : Int) * (P : Int)) = (v : Int) := by rw [← Int.natCast_mul, hv, wU (by omega)]
  have e4 : IntKind.u64.wrap ((hi : Int) * (P : Int)) = ((hi * P : Nat) : Int) := by rw [← Int.natCast_mul]; exact wU (by omega)
  have e5 : IntKind.u64.wrap (64 - (sh : Int)) = ((64 - sh : Nat) : Int) := (wU (by omega)).trans (by omega)
  have e6 : (2 : Int) ^ min (64 - sh) IntKind.u64.bits = (Q : Int) := by
    rw [show min (64 - sh) IntKind.u64.bits = 64 - sh from Nat.min_eq_left (show 64 - sh ≤ 64 by omega), ← hQ2]; simp
  have e7 : (lo : Int).fdiv (Q : Int) = (g : Int) := by rw [fdiv_nat, hg]
  have e8 : IntKind.u64.wrap ((BitVec.ofInt IntKind.u64.bits ((hi * P : Nat) : Int) ||| BitVec.ofInt IntKind.u64.bits (g : Int)).toNat : Int) = (u : Int) := by
    have := orU_add hi sh g (by rw [hP2]; omega) (by rw [hP2]; omega) (by omega)
    rw [hP2, hu] at this
    exact this
  have e9 : IntKind.u64.wrap ((lo : Int) * (P : Int)) = (t : Int) := by rw [← Int.natCast_mul, wUn, ht]
  refine ctr_pure Try.func71 ok71 rfl cc71 cr71 Try.ntmps71 (by simp) rfl rfl ?_; intro c hP hfn; simp only [kc71, vcb, ↓evSo_some, ↓reduceIte, reduceCtorEq, seval]
  refine ⟨fun h => ?_, fun h => ?_⟩
  · exfalso; simp at h; omega
  refine ⟨fun h2 => ?_, fun h2 => ?_⟩
  · exfalso; simp at h2; omega
  refine ⟨fun h3 => ?_, fun h3 => ?_⟩
  · have h0 : hi = 0 := by simpa using h3
    subst h0
    repeat' first
        | refine And.intro (fun h => ?_) (fun h => ?_)
        | refine And.intro (by first | omega | (simp only [maxLen, decide_eq_true_eq, decide_eq_false_iff_not] at *; omega)) ?_
        | (refine TR.aslO rfl rfl rfl rfl trivial (Nat.le_of_ble_eq_true rfl) ?_
           try simp only [vcb, ↓evSo_some, ↓reduceIte, reduceCtorEq, seval])
        | refine And.intro trivial ?_
        | refine And.intro rfl ?_
        | fail
    (refine RetK.pure (by simp only [rs71, rsb, vcb, ↓evSo_some, ↓reduceIte, reduceCtorEq, seval]) (VLe.tups ?_); simp only [rs71, rsb, vcb, ↓evSo_some, ↓reduceIte, reduceCtorEq, seval])
    refine ⟨VLe.int ?_, VLe.int ?_, trivial⟩
    · simp only [tdiv_nat, g1 _ _ hl, Nat.zero_mul, Nat.zero_add]
    · simp only [tmod_nat, Nat.zero_mul, Nat.zero_add]
  have hv1 : v = v / 4294967296 * 4294967296 + v % 4294967296 := by omega
  have hv1b : 2147483648 ≤ v / 4294967296 := by omega
  have hv0 : v % 4294967296 < 4294967296 := by omega
  obtain ⟨v1, hv1d⟩ : ∃ v1, v / 4294967296 = v1 := ⟨_, rfl⟩
  obtain ⟨v0, hv0d⟩ : ∃ v0, v % 4294967296 = v0 := ⟨_, rfl⟩
  obtain ⟨d, hdd⟩ : ∃ d, t / 4294967296 = d := ⟨_, rfl⟩
  obtain ⟨d0, hd0d⟩ : ∃ d0, t % 4294967296 = d0 := ⟨_, rfl⟩
  have hd : d < 4294967296 := by omega
  have hd0 : d0 < 4294967296 := by omega
  have f1 : (v : Int).fdiv 4294967296 = (v1 : Int) := by rw [fdivL, hv1d]
  have f2 : (t : Int).fdiv 4294967296 = (d : Int) := by rw [fdivL, hdd]
  have f3 : IntKind.u64.wrap ((BitVec.ofInt IntKind.u64.bits (v : Int) &&& BitVec.ofInt IntKind.u64.bits 4294967295).toNat : Int) = (v0 : Int) := by rw [andN, gm, hv0d]
  have f4 : IntKind.u64.wrap ((BitVec.ofInt IntKind.u64.bits (t : Int) &&& BitVec.ofInt IntKind.u64.bits 4294967295).toNat : Int) = (d0 : Int) := by rw [andN, gm, hd0d]
  rw [hv1d, hv0d] at hv1
  rw [hv1d] at hv1b
  rw [hv0d] at hv0
  have hu64 : u < 18446744073709551616 := by omega
  have f5 : IntKind.u64.wrap ((u : Int).tdiv (v1 : Int)) = ((u / v1 : Nat) : Int) := by rw [tdiv_nat, g1 _ _ hu64]
  have hdiv : ∀ q r, KnI u d v v1 v0 q r → (4294967296 ≤ q ∨ 4294967296 * r + d < q * v0) → (u * 4294967296 + d) / v + 1 ≤ q := fun q r h hc => kn_dec hv1 huv hd h.e hc
  obtain ⟨q1, hq1⟩ : ∃ q1, (u * 4294967296 + d) / v = q1 := ⟨_, rfl⟩
  obtain ⟨w, hw⟩ : ∃ w, (u * 4294967296 + d) % v = w := ⟨_, rfl⟩
  have hwv : w < v := by rw [← hw]; exact Nat.mod_lt _ (by omega)
  have hqw : u * 4294967296 + d = q1 * v + w := by
    have := Nat.div_add_mod' (u * 4294967296 + d) v
    rw [hq1, hw] at this; exact this.symm
  obtain ⟨q0, hq0⟩ : ∃ q0, (w * 4294967296 + d0) / v = q0 := ⟨_, rfl⟩
  obtain ⟨z, hz⟩ : ∃ z, (w * 4294967296 + d0) % v = z := ⟨_, rfl⟩
  have hzv : z < v := by rw [← hz]; exact Nat.mod_lt _ (by omega)
  have hqz : w * 4294967296 + d0 = q0 * v + z := by
    have := Nat.div_add_mod' (w * 4294967296 + d0) v
    rw [hq0, hz] at this; exact this.symm
  have hq1b : q1 < 4294967296 := by rw [← hq1, Nat.div_lt_iff_lt_mul (by omega)]; omega
  have hq0b : q0 < 4294967296 := by rw [← hq0, Nat.div_lt_iff_lt_mul (by omega)]; omega
  have hw64 : w < 18446744073709551616 := by omega
  have hz64 : z < 18446744073709551616 := by omega
  have f6 := g4 u d v q1 w hw64 hqw
  have f7 := g4 w d0 v q0 z hz64 hqz
  have f8 : IntKind.u64.wrap ((w : Int).tdiv (v1 : Int)) = ((w / v1 : Nat) : Int) := by rw [tdiv_nat, g1 _ _ hw64]
  have hfin : hi * 18446744073709551616 + lo = (q1 * 4294967296 + q0) * y + z / P ∧ z / P < y := by
    have h1 : (hi * 18446744073709551616 + lo) * P = (q1 * 4294967296 + q0) * v + z := by
      have ht2 : t = d * 4294967296 + d0 := by omega
      have h2 : (q1 * 4294967296 + q0) * v = q1 * v * 4294967296 + q0 * v := by rw [Nat.add_mul, Nat.mul_right_comm]
      rw [hN, h2]; exact kn_join hqw hqz ht2
    have h3 : (hi * 18446744073709551616 + lo) * P = (q1 * 4294967296 + q0) * y * P + z := by rw [h1, ← hv, Nat.mul_assoc]
    have h4 : z = ((hi * 18446744073709551616 + lo) - (q1 * 4294967296 + q0) * y) * P := by rw [Nat.sub_mul]; omega
    have h5 : z / P = (hi * 18446744073709551616 + lo) - (q1 * 4294967296 + q0) * y := by rw [h4, Nat.mul_div_cancel _ hP0]
    have h6 : (q1 * 4294967296 + q0) * y ≤ hi * 18446744073709551616 + lo := Nat.le_of_mul_le_mul_right (by omega) hP0
    refine ⟨by rw [h5]; exact (Nat.add_sub_cancel' h6).symm, ?_⟩
    rw [Nat.div_lt_iff_lt_mul hP0, hv]; exact hzv
  have hqq : (hi * 18446744073709551616 + lo) / y = q1 * 4294967296 + q0 := by
    rw [hfin.1, Nat.mul_comm _ y, Nat.mul_add_div (by omega), Nat.div_eq_of_lt hfin.2, Nat.add_zero]
  have hrr : (hi * 18446744073709551616 + lo) % y = z / P := by
    rw [hfin.1, Nat.mul_comm _ y, Nat.mul_add_mod, Nat.mod_eq_of_lt hfin.2]
  repeat' first
      | (first
          | refine TR.p hP (by first | exact lz) (by repeat' first | exact trivial | (intro _; assumption) | apply And.intro) ?_
          | refine TR.gp hP rfl (fun _ => by first | exact lz) (fun _ => by repeat' first | exact trivial | (intro _; assumption) | apply And.intro) ?_
          | refine TR.pv hP rfl (by first | exact lz) trivial (by repeat' first | exact trivial | (intro _; assumption) | apply And.intro) ?_
         try simp only [p32, e1, e2, e3, e4, e5, e6, e7, e8, e9, f1, f2, f3, f4, f5, g2 u v1 hu64, g3 u v1 hu64, vcb, ↓evSo_some, ↓reduceIte, reduceCtorEq, seval])
      | refine And.intro (fun h => ?_) (fun h => ?_)
      | refine And.intro (by first | omega | (simp only [maxLen, decide_eq_true_eq, decide_eq_false_iff_not] at *; omega)) ?_
      | (refine TR.aslO rfl rfl rfl rfl trivial (Nat.le_of_ble_eq_true rfl) ?_
         try simp only [p32, e1, e2, e3, e4, e5, e6, e7, e8, e9, f1, f2, f3, f4, f5, g2 u v1 hu64, g3 u v1 hu64, vcb, ↓evSo_some, ↓reduceIte, reduceCtorEq, seval])
      | refine And.intro trivial ?_
      | refine And.intro rfl ?_
      | fail
  refine vcC.loopX (X := Nat × Nat) (Y := Unit) (fun x => ⟨[(2, .d (.int .u64 v)), (8, .d (.int .u64 sh)), (9, .d (.int .u64 v1)), (10, .d (.int .u64 v0)), (11, .d (.int .u64 u)), (13, .d (.int .u64 d)), (14, .d (.int .u64 d0)), (15, .d (.int .u64 x.1)), (16, .d (.int .u64 x.2))], [], []⟩)
    (fun x => KnI u d v v1 v0 x.1 x.2) (fun x => x.1) (u / v1, u % v1)
    (fun _ => ⟨[(2, .d (.int .u64 v)), (8, .d (.int .u64 sh)), (9, .d (.int .u64 v1)), (10, .d (.int .u64 v0)), (11, .d (.int .u64 u)), (13, .d (.int .u64 d)), (14, .d (.int .u64 d0)), (15, .d (.int .u64 q1))], [], []⟩) (fun _ => True)
    ⟨kn_lo hv1 (by omega) hd, kn_start hv1 hv1b hv0 huv, (Nat.div_add_mod' u v1).symm, by have := Nat.mod_lt u (show 0 < v1 by omega); omega⟩ (Wk.of [] hfn rfl (by simp only [enb, vcb, ↓evSo_some, ↓reduceIte, reduceCtorEq, seval]) (by simp only [enb, vcb, ↓evSo_some, ↓reduceIte, reduceCtorEq, seval])) ?_ ?_
  · rintro ⟨q, r⟩ hk
    simp only at hk
    have hc := kn_cond (q := q) hd hv0 hk.r
    simp only [vcb, ↓evSo_some, ↓reduceIte, reduceCtorEq, seval]
    refine ⟨fun h4 => ?_, fun h4 => ?_⟩
    · have h5 := hdiv q r hk (hc.1 h4)
      have k1 := hk.e
      have k2 := hk.r
      have k3 := hk.hi
      have c1 : IntKind.u64.wrap ((q : Int) - 1) = ((q - 1 : Nat) : Int) := (wU (by omega)).trans (by omega)
      have c2 : IntKind.u64.wrap ((r : Int) + (v1 : Int)) = ((r + v1 : Nat) : Int) := (wU (by omega)).trans (by omega)
      have c3 : u = (q - 1) * v1 + (r + v1) := by
        have : q * v1 = (q - 1) * v1 + v1 := by
          rw [← Nat.succ_mul]; congr 1; omega
        omega
      simp only [c1, c2]
      refine ⟨fun h6 => ?_, fun h6 => ?_⟩
      · have h7 : 4294967296 ≤ r + v1 := by have := of_decide_eq_true h6; omega
        have h8 := kn_brk (d := d) hv1 hv0 (by omega) c3 (by omega) h7
        refine ⟨(), Wk.of [] hfn rfl (by simp only [enb, vcb, ↓evSo_some, ↓reduceIte, reduceCtorEq, seval]; omega) (by simp only [enb, vcb, ↓evSo_some, ↓reduceIte, reduceCtorEq, seval])⟩
      · have h7 : r + v1 < 4294967296 := by have := of_decide_eq_false h6; omega
        exact lopX.on (q - 1, r + v1) ⟨by simp only; omega, by simp only; omega, c3, h7⟩ (by simp only; omega) (Wk.of [] hfn rfl (by simp only [enb, vcb, ↓evSo_some, ↓reduceIte, reduceCtorEq, seval]) (by simp only [enb, vcb, ↓evSo_some, ↓reduceIte, reduceCtorEq, seval]))
    · have h5 : ¬ (4294967296 ≤ q ∨ 4294967296 * r + d < q * v0) := fun e => by rw [hc.2 e] at h4; cases h4
      have h8 := kn_le (d := d) hv1 (by omega) hk.e (by omega)
      have h9 := hk.lo
      exact ⟨(), Wk.of [] hfn rfl (by simp only [enb, vcb, ↓evSo_some, ↓reduceIte, reduceCtorEq, seval]; omega) (by simp only [enb, vcb, ↓evSo_some, ↓reduceIte, reduceCtorEq, seval])⟩
  · rintro - -
    simp only [f6, f8, g2 w v1 hw64, g3 w v1 hw64, vcb, ↓evSo_some, ↓reduceIte, reduceCtorEq, seval]
    refine ⟨by omega, ?_⟩
    have hdiv2 : ∀ q r, KnI w d0 v v1 v0 q r → (4294967296 ≤ q ∨ 4294967296 * r + d0 < q * v0) → (w * 4294967296 + d0) / v + 1 ≤ q := fun q r h hc => kn_dec hv1 hwv hd0 h.e hc
    refine vcC.loopX (X := Nat × Nat) (Y := Unit) (fun x => ⟨[(2, .d (.int .u64 v)), (8, .d (.int .u64 sh)), (9, .d (.int .u64 v1)), (10, .d (.int .u64 v0)), (14, .d (.int .u64 d0)), (15, .d (.int .u64 q1)), (17, .d (.int .u64 w)), (18, .d (.int .u64 x.1)), (16, .d (.int .u64 x.2))], [], []⟩)
      (fun x => KnI w d0 v v1 v0 x.1 x.2) (fun x => x.1) (w / v1, w % v1)
      (fun _ => ⟨[(2, .d (.int .u64 v)), (8, .d (.int .u64 sh)), (14, .d (.int .u64 d0)), (15, .d (.int .u64 q1)), (17, .d (.int .u64 w)), (18, .d (.int .u64 q0))], [], []⟩) (fun _ => True)
      ⟨kn_lo hv1 (by omega) hd0, kn_start hv1 hv1b hv0 hwv, (Nat.div_add_mod' w v1).symm, by have := Nat.mod_lt w (show 0 < v1 by omega); omega⟩ (Wk.of [] hfn rfl (by simp only [enb, vcb, ↓evSo_some, ↓reduceIte, reduceCtorEq, seval]) (by simp only [enb, vcb, ↓evSo_some, ↓reduceIte, reduceCtorEq, seval])) ?_ ?_
    · rintro ⟨q, r⟩ hk
      simp only at hk
      have hc := kn_cond (q := q) hd0 hv0 hk.r
      simp only [vcb, ↓evSo_some, ↓reduceIte, reduceCtorEq, seval]
      refine ⟨fun h4 => ?_, fun h4 => ?_⟩
      · have h5 := hdiv2 q r hk (hc.1 h4)
        have k1 := hk.e
        have k2 := hk.r
        have k3 := hk.hi
        have c1 : IntKind.u64.wrap ((q : Int) - 1) = ((q - 1 : Nat) : Int) := (wU (by omega)).trans (by omega)
        have c2 : IntKind.u64.wrap ((r : Int) + (v1 : Int)) = ((r + v1 : Nat) : Int) := (wU (by omega)).trans (by omega)
        have c3 : w = (q - 1) * v1 + (r + v1) := by
          have : q * v1 = (q - 1) * v1 + v1 := by
            rw [← Nat.succ_mul]; congr 1; omega
          omega
        simp only [c1, c2]
        refine ⟨fun h6 => ?_, fun h6 => ?_⟩
        · have h7 : 4294967296 ≤ r + v1 := by have := of_decide_eq_true h6; omega
          have h8 := kn_brk (d := d0) hv1 hv0 (by omega) c3 (by omega) h7
          refine ⟨(), Wk.of [] hfn rfl (by simp only [enb, vcb, ↓evSo_some, ↓reduceIte, reduceCtorEq, seval]; omega) (by simp only [enb, vcb, ↓evSo_some, ↓reduceIte, reduceCtorEq, seval])⟩
        · have h7 : r + v1 < 4294967296 := by have := of_decide_eq_false h6; omega
          exact lopX.on (q - 1, r + v1) ⟨by simp only; omega, by simp only; omega, c3, h7⟩ (by simp only; omega) (Wk.of [] hfn rfl (by simp only [enb, vcb, ↓evSo_some, ↓reduceIte, reduceCtorEq, seval]) (by simp only [enb, vcb, ↓evSo_some, ↓reduceIte, reduceCtorEq, seval]))
      · have h5 : ¬ (4294967296 ≤ q ∨ 4294967296 * r + d0 < q * v0) := fun e => by rw [hc.2 e] at h4; cases h4
        have h8 := kn_le (d := d0) hv1 (by omega) hk.e (by omega)
        have h9 := hk.lo
        exact ⟨(), Wk.of [] hfn rfl (by simp only [enb, vcb, ↓evSo_some, ↓reduceIte, reduceCtorEq, seval]; omega) (by simp only [enb, vcb, ↓evSo_some, ↓reduceIte, reduceCtorEq, seval])⟩
    · rintro - -
      have f9 : (z : Int).fdiv (P : Int) = ((z / P : Nat) : Int) := fdiv_nat z P
      have f10 : IntKind.u64.wrap (IntKind.u64.wrap ((q1 : Int) * 4294967296) + (q0 : Int)) = ((q1 * 4294967296 + q0 : Nat) : Int) := by
        rw [wU (a := (q1 : Int) * 4294967296) (by omega), wU (by omega)]; omega
      simp only [f7, f9, f10, e2, vcb, ↓evSo_some, ↓reduceIte, reduceCtorEq, seval]
      repeat' first
          | refine And.intro (fun h => ?_) (fun h => ?_)
          | refine And.intro (by first | omega | (simp only [maxLen, decide_eq_true_eq, decide_eq_false_iff_not] at *; omega)) ?_
          | (refine TR.aslO rfl rfl rfl rfl trivial (Nat.le_of_ble_eq_true rfl) ?_
             try simp only [vcb, ↓evSo_some, ↓reduceIte, reduceCtorEq, seval])
          | refine And.intro trivial ?_
          | refine And.intro rfl ?_
          | fail
      exact RetK.pure (by simp only [rs71, rsb, vcb, ↓evSo_some, ↓reduceIte, reduceCtorEq, seval]) (by (simp only [rs71, rsb, vcb, ↓evSo_some, ↓reduceIte, reduceCtorEq, seval, enb, vcb, ↓evSo_some, ↓reduceIte, reduceCtorEq, seval]) <;> (first | (rw [hqq, hrr]; exact VLe.refl _)))
def ofR (up : Nat → Nat → Nat → Bool) (a b c : Int) : Int × Int :=
  if a < 0 ∨ b < 0 ∨ c < 0 then (0, 1)
  else if c = 0 then (0, 6)
  else if 4000000000000000000 < a.toNat * b.toNat / c.toNat then (0, 5)
  else if 4000000000000000000 < a.toNat * b.toNat / c.toNat + (if up (a.toNat * b.toNat / c.toNat) (a.toNat * b.toNat % c.toNat) c.toNat = true then 1 else 0) then (0, 5)
  else (((a.toNat * b.toNat / c.toNat + (if up (a.toNat * b.toNat / c.toNat) (a.toNat * b.toNat % c.toNat) c.toNat = true then 1 else 0) : Nat) : Int), 0)
theorem sOf (g : Nat) (up : Nat → Nat → Nat → Bool) (hg : ∀ q r c : Nat, r < c → c < 9223372036854775808 → Ctr Try.prog g [.d (.int .u64 q), .d (.int .u64 r), .d (.int .u64 c)] [] (.d (.bool (up q r c))) [] [])
    (a b k : Int) (ha : a ≤ 9223372036854775807) (hb : b ≤ 9223372036854775807) (hc : k ≤ 9223372036854775807) :
    Ctr Try.prog 65 [.ag [.fn (.func g) [] []], .d (.int .i64 a), .d (.int .i64 b), .d (.int .i64 k)] [] (.tup [.d (.int .i64 (ofR up a b k).1), .d (.int .i64 (ofR up a b k).2)]) [] [] := by
  refine ctr_pure Try.func65 ok65 rfl cc65 cr65 Try.ntmps65 (by simp) rfl rfl ?_; intro c hP hfn; simp only [kc65, vcb, ↓evSo_some, ↓reduceIte, reduceCtorEq, seval]
  refine ⟨fun h1 => ?_, fun h1 => ?_⟩
  · have e : ofR up a b k = (0, 1) := by
      simp only [Bool.or_eq_true, decide_eq_true_eq] at h1
      rw [ofR, if_pos (by omega)]
    (refine RetK.pure (by simp only [rs65, rsb, vcb, ↓evSo_some, ↓reduceIte, reduceCtorEq, seval]) (VLe.tups ?_); simp only [rs65, rsb, vcb, ↓evSo_some, ↓reduceIte, reduceCtorEq, seval])
    rw [e]; exact ⟨VLe.refl _, VLe.refl _, trivial⟩
  have h1 : ¬ (a < 0 ∨ b < 0 ∨ k < 0) := by
    simp only [Bool.or_eq_false_iff, decide_eq_false_iff_not] at h1; omega
  refine ⟨fun h2 => ?_, fun h2 => ?_⟩
  · have h2 : k = 0 := by simpa using h2
    have e : ofR up a b k = (0, 6) := by rw [ofR, if_neg h1, if_pos h2]
    (refine RetK.pure (by simp only [rs65, rsb, vcb, ↓evSo_some, ↓reduceIte, reduceCtorEq, seval]) (VLe.tups ?_); simp only [rs65, rsb, vcb, ↓evSo_some, ↓reduceIte, reduceCtorEq, seval])
    rw [e]; exact ⟨VLe.refl _, VLe.refl _, trivial⟩
  have h2 : ¬ k = 0 := by simpa using h2
  obtain ⟨A, rfl⟩ : ∃ A : Nat, a = (A : Int) := ⟨a.toNat, by omega⟩
  obtain ⟨B, rfl⟩ : ∃ B : Nat, b = (B : Int) := ⟨b.toNat, by omega⟩
  obtain ⟨C, rfl⟩ : ∃ C : Nat, k = (C : Int) := ⟨k.toNat, by omega⟩
  have e1 : IntKind.u64.wrap (A : Int) = (A : Int) := wU (by omega)
  have e2 : IntKind.u64.wrap (B : Int) = (B : Int) := wU (by omega)
  have e3 : IntKind.u64.wrap (C : Int) = (C : Int) := wU (by omega)
  have hR : ofR up (A : Int) (B : Int) (C : Int) = (if 4000000000000000000 < A * B / C then (0, 5) else
      if 4000000000000000000 < A * B / C + (if up (A * B / C) (A * B % C) C = true then 1 else 0) then (0, 5)
      else (((A * B / C + (if up (A * B / C) (A * B % C) C = true then 1 else 0) : Nat) : Int), 0)) := by
    rw [ofR, if_neg h1, if_neg h2]; rfl
  have hm := Nat.div_add_mod (A * B) 18446744073709551616
  have hml : A * B % 18446744073709551616 < 18446744073709551616 := Nat.mod_lt _ (by omega)
  have hC0 : 0 < C := by omega
  simp only [e1, e2, e3]
  repeat' first
      | (first
          | refine TR.p hP (by first | exact sMul64 A B (by omega) (by omega)) (by repeat' first | exact trivial | (intro _; assumption) | apply And.intro) ?_
          | refine TR.gp hP rfl (fun _ => by first | exact sMul64 A B (by omega) (by omega)) (fun _ => by repeat' first | exact trivial | (intro _; assumption) | apply And.intro) ?_
          | refine TR.pv hP rfl (by first | exact sMul64 A B (by omega) (by omega)) trivial (by repeat' first | exact trivial | (intro _; assumption) | apply And.intro) ?_
         try simp only [e1, e2, e3, vcb, ↓evSo_some, ↓reduceIte, reduceCtorEq, seval])
      | refine And.intro (fun h => ?_) (fun h => ?_)
      | refine And.intro (by first | omega | (simp only [maxLen, decide_eq_true_eq, decide_eq_false_iff_not] at *; omega)) ?_
      | (refine TR.aslO rfl rfl rfl rfl trivial (Nat.le_of_ble_eq_true rfl) ?_
         try simp only [e1, e2, e3, vcb, ↓evSo_some, ↓reduceIte, reduceCtorEq, seval])
      | refine And.intro trivial ?_
      | refine And.intro rfl ?_
      | fail
  · have h3 : 4000000000000000000 < A * B / C := by
      have h := of_decide_eq_true h
      have h4 : C ≤ A * B / 18446744073709551616 := by omega
      have h5 : C * 18446744073709551616 ≤ A * B := by
        have := (Nat.le_div_iff_mul_le (by omega)).1 h4; exact this
      have h6 : 18446744073709551616 ≤ A * B / C := (Nat.le_div_iff_mul_le hC0).2 (by omega)
      omega
    (refine RetK.pure (by simp only [rs65, rsb, vcb, ↓evSo_some, ↓reduceIte, reduceCtorEq, seval]) (VLe.tups ?_); simp only [rs65, rsb, vcb, ↓evSo_some, ↓reduceIte, reduceCtorEq, seval])
    rw [hR, if_pos h3]; exact ⟨VLe.refl _, VLe.refl _, trivial⟩
  have hh : A * B / 18446744073709551616 < C := by have := of_decide_eq_false h; omega
  have hd := sDiv64 (A * B / 18446744073709551616) (A * B % 18446744073709551616) C hh hml (by omega)
  rw [show A * B / 18446744073709551616 * 18446744073709551616 + A * B % 18446744073709551616 = A * B by omega] at hd
  have hrC : A * B % C < C := Nat.mod_lt _ hC0
  generalize A * B / C = q at *
  generalize A * B % C = r at *
  repeat' first
      | (first
          | refine TR.p hP (by first | exact hd | exact hg q r C hrC (by omega)) (by repeat' first | exact trivial | (intro _; assumption) | apply And.intro) ?_
          | refine TR.gp hP rfl (fun _ => by first | exact hd | exact hg q r C hrC (by omega)) (fun _ => by repeat' first | exact trivial | (intro _; assumption) | apply And.intro) ?_
          | refine TR.pv hP rfl (by first | exact hd | exact hg q r C hrC (by omega)) trivial (by repeat' first | exact trivial | (intro _; assumption) | apply And.intro) ?_
         try simp only [e1, e2, e3, vcb, ↓evSo_some, ↓reduceIte, reduceCtorEq, seval])
      | refine And.intro (fun h => ?_) (fun h => ?_)
      | refine And.intro (by first | omega | (simp only [maxLen, decide_eq_true_eq, decide_eq_false_iff_not] at *; omega)) ?_
      | (refine TR.aslO rfl rfl rfl rfl trivial (Nat.le_of_ble_eq_true rfl) ?_
         try simp only [e1, e2, e3, vcb, ↓evSo_some, ↓reduceIte, reduceCtorEq, seval])
      | refine And.intro trivial ?_
      | refine And.intro rfl ?_
      | fail
  · have h4 : 4000000000000000000 < q := by have := of_decide_eq_true h; omega
    (refine RetK.pure (by simp only [rs65, rsb, vcb, ↓evSo_some, ↓reduceIte, reduceCtorEq, seval]) (VLe.tups ?_); simp only [rs65, rsb, vcb, ↓evSo_some, ↓reduceIte, reduceCtorEq, seval])
    rw [hR, if_pos h4]; exact ⟨VLe.refl _, VLe.refl _, trivial⟩
  · rename_i h5 h6
    have h4 : ¬ 4000000000000000000 < q := by have := of_decide_eq_false h5; omega
    have e4 : IntKind.u64.wrap ((q : Int) + 1) = ((q + 1 : Nat) : Int) := (wU (by omega)).trans (by omega)
    rw [e4] at h
    have h7 : 4000000000000000000 < q + 1 := by have := of_decide_eq_true h; omega
    (refine RetK.pure (by simp only [rs65, rsb, vcb, ↓evSo_some, ↓reduceIte, reduceCtorEq, seval]) (VLe.tups ?_); simp only [rs65, rsb, vcb, ↓evSo_some, ↓reduceIte, reduceCtorEq, seval])
    rw [hR, if_neg h4, if_pos h6, if_pos h7]; exact ⟨VLe.refl _, VLe.refl _, trivial⟩
  · rename_i h5 h6
    have h4 : ¬ 4000000000000000000 < q := by have := of_decide_eq_false h5; omega
    have e4 : IntKind.u64.wrap ((q : Int) + 1) = ((q + 1 : Nat) : Int) := (wU (by omega)).trans (by omega)
    rw [e4] at h
    have h7 : ¬ 4000000000000000000 < q + 1 := by have := of_decide_eq_false h; omega
    (refine RetK.pure (by simp only [rs65, rsb, vcb, ↓evSo_some, ↓reduceIte, reduceCtorEq, seval]) (VLe.tups ?_); simp only [rs65, rsb, vcb, ↓evSo_some, ↓reduceIte, reduceCtorEq, seval])
    rw [hR, if_neg h4, if_pos h6, if_neg h7, e4, wI (a := ((q + 1 : Nat) : Int)) (by omega)]; exact ⟨VLe.refl _, VLe.refl _, trivial⟩
  · rename_i h5 h6
    exfalso; rw [h5] at h; cases h
  · rename_i h5 h6
    have h4 : ¬ 4000000000000000000 < q := by have := of_decide_eq_false h5; omega
    have h8 : ¬ (up q r C = true) := by rw [h6]; simp
    (refine RetK.pure (by simp only [rs65, rsb, vcb, ↓evSo_some, ↓reduceIte, reduceCtorEq, seval]) (VLe.tups ?_); simp only [rs65, rsb, vcb, ↓evSo_some, ↓reduceIte, reduceCtorEq, seval])
    rw [hR, if_neg h4, if_neg h8, Nat.add_zero, if_neg h4, wI (a := (q : Int)) (by omega)]; exact ⟨VLe.refl _, VLe.refl _, trivial⟩
end Go.Proofs.Ytkifajabiggfmaa
end
section
set_option linter.unusedSimpArgs false
set_option linter.unusedVariables false
namespace Go.Proofs.Ytkifajabiggfmaa
set_option linter.unusedSimpArgs false
set_option linter.unusedVariables false
open Go.Bx
set_option maxRecDepth 10000
def upD (_ _ _ : Nat) : Bool := false
theorem sDown1 (q r c : Nat) (_ : r < c) (_ : c < 9223372036854775808) : Ctr Try.prog 69 [.d (.int .u64 q), .d (.int .u64 r), .d (.int .u64 c)] [] (.d (.bool (upD q r c))) [] [] := by
  refine ctr_pure Try.func69 ok69 rfl cc69 cr69 Try.ntmps69 (by simp) rfl rfl ?_; intro c hP hfn; simp only [kc69, vcb, ↓evSo_some, ↓reduceIte, reduceCtorEq, seval]
  exact RetK.pure (by simp only [rs69, rsb, vcb, ↓evSo_some, ↓reduceIte, reduceCtorEq, seval]) (by simp only [rs69, rsb, vcb, ↓evSo_some, ↓reduceIte, reduceCtorEq, seval, enb, vcb, ↓evSo_some, ↓reduceIte, reduceCtorEq, seval, upD])
theorem sDown0 : Ctr Try.prog 64 [] [] (.ag [.fn (.func 69) [] []]) [] [] := by
  refine ctr_pure Try.func64 ok64 rfl cc64 cr64 Try.ntmps64 (by simp) rfl rfl ?_; intro c hP hfn; simp only [kc64, vcb, ↓evSo_some, ↓reduceIte, reduceCtorEq, seval]
  exact RetK.pure (by simp only [rs64, rsb, vcb, ↓evSo_some, ↓reduceIte, reduceCtorEq, seval]) (by simp only [rs64, rsb, vcb, ↓evSo_some, ↓reduceIte, reduceCtorEq, seval, enb, vcb, ↓evSo_some, ↓reduceIte, reduceCtorEq, seval])
def downR (a b k : Int) : Int × Int := ofR upD a b k
theorem sDown (a b k : Int) (ha : a ≤ 9223372036854775807) (hb : b ≤ 9223372036854775807) (hc : k ≤ 9223372036854775807) :
    Ctr Try.prog 54 [.d (.int .i64 a), .d (.int .i64 b), .d (.int .i64 k)] [] (.tup [.d (.int .i64 (downR a b k).1), .d (.int .i64 (downR a b k).2)]) [] [] := by
  refine ctr_pure Try.func54 ok54 rfl cc54 cr54 Try.ntmps54 (by simp) rfl rfl ?_; intro c hP hfn; simp only [kc54, vcb, ↓evSo_some, ↓reduceIte, reduceCtorEq, seval]
  repeat' first
      | (first
          | refine TR.p hP (by first | exact sDown0 | exact sOf 69 upD sDown1 a b k ha hb hc) (by repeat' first | exact trivial | (intro _; assumption) | apply And.intro) ?_
          | refine TR.gp hP rfl (fun _ => by first | exact sDown0 | exact sOf 69 upD sDown1 a b k ha hb hc) (fun _ => by repeat' first | exact trivial | (intro _; assumption) | apply And.intro) ?_
          | refine TR.pv hP rfl (by first | exact sDown0 | exact sOf 69 upD sDown1 a b k ha hb hc) trivial (by repeat' first | exact trivial | (intro _; assumption) | apply And.intro) ?_
         try simp only [vcb, ↓evSo_some, ↓reduceIte, reduceCtorEq, seval])
      | refine And.intro (fun h => ?_) (fun h => ?_)
      | refine And.intro (by first | omega | (simp only [maxLen, decide_eq_true_eq, decide_eq_false_iff_not] at *; omega)) ?_
      | (refine TR.aslO rfl rfl rfl rfl trivial (Nat.le_of_ble_eq_true rfl) ?_
         try simp only [vcb, ↓evSo_some, ↓reduceIte, reduceCtorEq, seval])
      | refine And.intro trivial ?_
      | refine And.intro rfl ?_
      | fail
  (refine RetK.pure (by simp only [rs54, rsb, vcb, ↓evSo_some, ↓reduceIte, reduceCtorEq, seval]) (VLe.tups ?_); simp only [rs54, rsb, vcb, ↓evSo_some, ↓reduceIte, reduceCtorEq, seval])
  exact ⟨VLe.refl _, VLe.refl _, trivial⟩
def psums : Int → List Int → List Int
  | _, [] => []
  | n, p :: r => (n + p) :: psums (n + p) r
def deal2 (m S : Int) : Int → List Int → List Int
  | _, [] => []
  | d, s :: r => IntKind.i64.wrap ((downR m s S).1 - d) :: deal2 m S (downR m s S).1 r
def splitR (m : Int) (parts : List Int) : List Int × Int :=
  if m < 0 ∨ 2000 < parts.length then ([], 1)
  else if parts.any (fun p => decide (p < 0)) = true then ([], 1)
  else if 4000000000000000000 < parts.sum ∨ 4000000000000000000 < m then ([], 5)
  else if parts.sum = 0 then ([], 6)
  else (deal2 m parts.sum 0 (psums 0 parts), 0)
theorem psums_len : ∀ (l : List Int) (n : Int), (psums n l).length = l.length
  | [], _ => rfl
  | p :: r, n => by simp [psums, psums_len r]
theorem psums_snoc : ∀ (l : List Int) (n x : Int), psums n (l ++ [x]) = psums n l ++ [n + l.sum + x]
  | [], n, x => by simp [psums]
  | p :: r, n, x => by simp [psums, psums_snoc r]; omega
theorem psums_last {l : List Int} {n : Int} (h : 0 < l.length) : (psums n l).getD (l.length - 1) 0 = n + l.sum := by
  obtain ⟨r, x, rfl⟩ : ∃ r x, l = r ++ [x] := by
    cases l with
    | nil => simp at h
    | cons p r => exact ⟨(p :: r).dropLast, (p :: r).getLast (by simp), (List.dropLast_concat_getLast (by simp)).symm⟩
  rw [psums_snoc]
  simp [psums_len]
  omega
def runR (s p : Int) : (Int × Int) × Int :=
  if p < 0 then ((0, 1), s)
  else if IntKind.i64.wrap (s + p) > 4000000000000000000 ∨ IntKind.i64.wrap (s + p) < 0 then ((0, 5), 4000000000000000001)
  else ((IntKind.i64.wrap (s + p), 0), IntKind.i64.wrap (s + p))
theorem sRun1 (s p : Int) : Ctr Try.prog 63 [.d (.int .i64 p), .own 1 0] [(1, .fix [.d (.int .i64 s)])] (.tup [.d (.int .i64 (runR s p).1.1), .d (.int .i64 (runR s p).1.2)]) [(1, .fix [.d (.int .i64 (runR s p).2)])] [] := by
  refine ctr_own Try.func63 ok63 rfl cc63 cr63 Try.ntmps63 (by simp) rfl ?_
  intro c hP hfn
  simp only [kc63, namesL, V.names, ownNames, vcb, ↓evSo_some, ↓reduceIte, reduceCtorEq, seval]
  refine ⟨fun h => ?_, fun h => ⟨fun h2 => ?_, fun h2 => ?_⟩⟩
  · have e : runR s p = ((0, 1), s) := by rw [runR, if_pos (of_decide_eq_true h)]
    rw [e]
    exact RetK.mk _ (Wk.refl _ _) (by simp only [rs63, rsb, vcb, ↓evSo_some, ↓reduceIte, reduceCtorEq, seval]) (by simp only [rs63, rsb, vcb, ↓evSo_some, ↓reduceIte, reduceCtorEq, seval, enb, vcb, ↓evSo_some, ↓reduceIte, reduceCtorEq, seval]) (by simp only [enb, vcb, ↓evSo_some, ↓reduceIte, reduceCtorEq, seval])
  · have h2' : IntKind.i64.wrap (s + p) > 4000000000000000000 ∨ IntKind.i64.wrap (s + p) < 0 := by simpa using h2
    have e : runR s p = ((0, 5), 4000000000000000001) := by rw [runR, if_neg (of_decide_eq_false h), if_pos h2']
    rw [e]
    exact RetK.mk _ (Wk.refl _ _) (by simp only [rs63, rsb, vcb, ↓evSo_some, ↓reduceIte, reduceCtorEq, seval]) (by simp only [rs63, rsb, vcb, ↓evSo_some, ↓reduceIte, reduceCtorEq, seval, enb, vcb, ↓evSo_some, ↓reduceIte, reduceCtorEq, seval]) (by simp only [enb, vcb, ↓evSo_some, ↓reduceIte, reduceCtorEq, seval])
  · have h2' : ¬ (IntKind.i64.wrap (s + p) > 4000000000000000000 ∨ IntKind.i64.wrap (s + p) < 0) := by simpa using h2
    have e : runR s p = ((IntKind.i64.wrap (s + p), 0), IntKind.i64.wrap (s + p)) := by rw [runR, if_neg (of_decide_eq_false h), if_neg h2']
    rw [e]
    exact RetK.mk _ (Wk.refl _ _) (by simp only [rs63, rsb, vcb, ↓evSo_some, ↓reduceIte, reduceCtorEq, seval]) (by simp only [rs63, rsb, vcb, ↓evSo_some, ↓reduceIte, reduceCtorEq, seval, enb, vcb, ↓evSo_some, ↓reduceIte, reduceCtorEq, seval]) (by simp only [enb, vcb, ↓evSo_some, ↓reduceIte, reduceCtorEq, seval])
theorem sRun : Ctr Try.prog 53 [] [] (.fn (.func 63) [] [.own 1 0]) [(1, .fix [.d (.int .i64 0)])] [1] := by
  refine ctr_own Try.func53 ok53 rfl cc53 cr53 Try.ntmps53 (by simp) rfl ?_
  intro c hP hfn
  simp only [kc53, namesL, V.names, ownNames, vcb, ↓evSo_some, ↓reduceIte, reduceCtorEq, seval]
  exact RetK.mk _ (Wk.refl _ _) (by simp only [rs53, rsb, vcb, ↓evSo_some, ↓reduceIte, reduceCtorEq, seval]) (by simp only [rs53, rsb, vcb, ↓evSo_some, ↓reduceIte, reduceCtorEq, seval, enb, vcb, ↓evSo_some, ↓reduceIte, reduceCtorEq, seval]) (by simp only [enb, vcb, ↓evSo_some, ↓reduceIte, reduceCtorEq, seval])
structure SpI (m : Int) (l : List Int) (k : Nat) (dn : List Int) (s : Int) (over : Bool) : Prop where
  len : dn.length = k
  le : k ≤ l.length
  nn : ∀ x, x ∈ l.take k → 0 ≤ x
  st : ((l.take k).sum ≤ 4000000000000000000 ∧ s = (l.take k).sum ∧ dn = psums 0 (l.take k) ∧ over = decide (m > 4000000000000000000)) ∨ (4000000000000000000 < (l.take k).sum ∧ s = 4000000000000000001 ∧ over = true)
theorem sum_nonneg : ∀ {l : List Int}, (∀ x, x ∈ l → 0 ≤ x) → 0 ≤ l.sum
  | [], _ => by simp
  | p :: r, h => by
    have := h p (by simp)
    have ih := sum_nonneg (l := r) (fun x hx => h x (by simp [hx]))
    simp only [List.sum_cons]; omega
theorem spI_step {m : Int} {l : List Int} {k : Nat} {dn : List Int} {s : Int} {over : Bool} {x : Int} (h : SpI m l k dn s over) (hlt : k < l.length) (hat : l[k]? = some x) (hx : x ≤ 9223372036854775807) :
    ((runR s x).1.2 = 1 ∧ x < 0) ∨ (0 ≤ x ∧ (runR s x).1.2 ≠ 1 ∧ SpI m l (k + 1) (dn ++ [(runR s x).1.1]) (runR s x).2 (over || ((runR s x).1.2 == 5))) := by
  have ht : l.take (k + 1) = l.take k ++ [x] := by rw [List.take_add_one, hat]; rfl
  by_cases hneg : x < 0
  · left; rw [runR, if_pos hneg]; exact ⟨rfl, hneg⟩
  right
  have hs0 := sum_nonneg h.nn
  have hnn : ∀ y, y ∈ l.take (k + 1) → 0 ≤ y := by
    intro y hy
    rw [ht] at hy
    rcases List.mem_append.1 hy with hy | hy
    · exact h.nn y hy
    · simp at hy; omega
  have hsum : (l.take (k + 1)).sum = (l.take k).sum + x := by rw [ht]; simp
  rcases h.st with ⟨h1, h2, h3, h4⟩ | ⟨h1, h2, h3⟩
  · by_cases hov : 4000000000000000000 < (l.take k).sum + x
    · have hw : IntKind.i64.wrap (s + x) > 4000000000000000000 ∨ IntKind.i64.wrap (s + x) < 0 := by rw [IntKind.wrap_i64]; omega
      rw [runR, if_neg hneg, if_pos hw]
      exact ⟨by omega, by simp, ⟨by simp [h.len], hlt, hnn, .inr ⟨by omega, rfl, by simp⟩⟩⟩
    · have hw : IntKind.i64.wrap (s + x) = s + x := wI (by omega)
      rw [runR, if_neg hneg, hw, if_neg (by omega)]
      refine ⟨by omega, by simp, ⟨by simp [h.len], hlt, hnn, .inl ⟨by omega, by simp only; omega, ?_, by simp [h4]⟩⟩⟩
      rw [ht, psums_snoc, h3, h2]; simp
  · have hw : IntKind.i64.wrap (s + x) > 4000000000000000000 ∨ IntKind.i64.wrap (s + x) < 0 := by rw [IntKind.wrap_i64]; omega
    rw [runR, if_neg hneg, if_pos hw]
    exact ⟨by omega, by simp, ⟨by simp [h.len], hlt, hnn, .inr ⟨by omega, rfl, by simp⟩⟩⟩
theorem any_neg {l : List Int} {x : Int} (hx : x ∈ l) (h : x < 0) : l.any (fun p => decide (p < 0)) = true := by
  rw [List.any_eq_true]; exact ⟨x, hx, by simpa using h⟩
theorem any_nonneg {l : List Int} (h : ∀ x, x ∈ l → 0 ≤ x) : ¬ (l.any (fun p => decide (p < 0)) = true) := by
  rw [List.any_eq_true]; rintro ⟨x, hx, h2⟩; have := h x hx; simp at h2; omega
theorem psums_le {l : List Int} (h : ∀ x, x ∈ l → 0 ≤ x) : ∀ (n : Int), 0 ≤ n → ∀ s, s ∈ psums n l → 0 ≤ s ∧ s ≤ n + l.sum := by
  induction l with
  | nil => intro n _ s hs; simp [psums] at hs
  | cons p r ih =>
    intro n hn s hs
    have hp := h p (by simp)
    have hr := sum_nonneg (l := r) (fun x hx => h x (by simp [hx]))
    simp only [psums, List.mem_cons] at hs
    simp only [List.sum_cons]
    rcases hs with rfl | hs
    · omega
    · have := ih (fun x hx => h x (by simp [hx])) (n + p) (by omega) s hs
      omega
theorem sSplit (m : Int) (l : List Int) (hm : m ≤ 9223372036854775807) (hl : l.length ≤ 9223372036854775807) (hx : ∀ x, x ∈ l → x ≤ 9223372036854775807) :
    Ctr Try.prog 31 [.d (.int .i64 m), .d (slK .i64 l)] [] (.tup [.d (slK .i64 (splitR m l).1), .d (.int .i64 (splitR m l).2)]) [] [] := by
  refine ctr_pure Try.func31 ok31 rfl cc31 cr31 Try.ntmps31 (by simp) rfl rfl ?_; intro c hP hfn; simp only [kc31, vcb, ↓evSo_some, ↓reduceIte, reduceCtorEq, seval]
  refine ⟨fun h => ?_, fun h => ?_⟩
  · have h' : m < 0 ∨ 2000 < l.length := by simp only [Bool.or_eq_true, decide_eq_true_eq] at h; omega
    (refine RetK.pure (by simp only [rs31, rsb, vcb, ↓evSo_some, ↓reduceIte, reduceCtorEq, seval]) (VLe.tups ?_); simp only [rs31, rsb, vcb, ↓evSo_some, ↓reduceIte, reduceCtorEq, seval])
    rw [splitR, if_pos h']; exact ⟨nilK, VLe.refl _, trivial⟩
  have h0 : ¬ (m < 0 ∨ 2000 < l.length) := by simp only [Bool.or_eq_false_iff, decide_eq_false_iff_not] at h; omega
  clear h
  refine TR.call [] [(1, .fix [.d (.int .i64 0)])] _ [1] (hP ▸ sRun) (by repeat' first | exact trivial | (intro _; assumption) | apply And.intro) (by simp) (by simp [keysO]) (by simp) ?_
  simp only [vcb, ↓evSo_some, ↓reduceIte, reduceCtorEq, seval]
  repeat' first
      | refine And.intro (fun h => ?_) (fun h => ?_)
      | refine And.intro (by first | omega | (simp only [maxLen, decide_eq_true_eq, decide_eq_false_iff_not] at *; omega)) ?_
      | (refine TR.aslO rfl rfl rfl rfl trivial (Nat.le_of_ble_eq_true rfl) ?_
         try simp only [vcb, ↓evSo_some, ↓reduceIte, reduceCtorEq, seval])
      | refine And.intro trivial ?_
      | refine And.intro rfl ?_
      | fail
  refine vcC.loop (X := Nat × List Int × Int × Bool) (fun x => ⟨[(8, .osl 1000), (0, .d (.int .i64 m)), (6, .fn (.func 63) [] [.own 1 0]), (7, .d (.bool x.2.2.2)), (33, .d (slK .i64 l)), (34, .d (.int .i64 l.length)), (35, .d (.int .i64 x.1))],
        [(1000, .row 3 1 x.2.1.length (fun i => [.int .i64 (x.2.1.getD i 0)])), (1, .fix [.d (.int .i64 x.2.2.1)])], [1000, 1]⟩)
      (fun x => SpI m l x.1 x.2.1 x.2.2.1 x.2.2.2) (fun x => l.length - x.1) (0, [], 0, decide (m > 4000000000000000000)) ⟨rfl, Nat.zero_le _, by simp, .inl ⟨by simp, by simp, by simp [psums], rfl⟩⟩
      (Wk.snoc (k := 32) _ hfn rfl rfl rfl rfl (OLe.row rfl (fun i hi => absurd hi (Nat.not_lt_zero i))) (by (simp only [enb, vcb, ↓evSo_some, ↓reduceIte, reduceCtorEq, seval]) <;> (first | exact wS (by omega) | (rw [List.length_append]; exact wS (by omega)) | assumption)) (by simp only [enb, vcb, ↓evSo_some, ↓reduceIte, reduceCtorEq, seval]) (by simp) (by simp only [enb, vcb, ↓evSo_some, ↓reduceIte, reduceCtorEq, seval]) (by simp only [enb, vcb, ↓evSo_some, ↓reduceIte, reduceCtorEq, seval])) ?_
  rintro ⟨k, dn, s, over⟩ hk
  simp only at hk
  simp only [vcb, ↓evSo_some, ↓reduceIte, reduceCtorEq, seval]
  refine ⟨fun h1 => ?_, fun h1 => ?_⟩
  · have hlt : k < l.length := by have := of_decide_eq_true h1; omega
    obtain ⟨x, hd, hg, hmx, hat⟩ := drop_at hlt
    have hst := spI_step hk hlt hat (hx x hmx)
    simp only [hg]
    repeat' first
        | refine And.intro (fun h => ?_) (fun h => ?_)
        | refine And.intro (by first | omega | (simp only [maxLen, decide_eq_true_eq, decide_eq_false_iff_not] at *; omega)) ?_
        | (refine TR.aslO rfl rfl rfl rfl trivial (Nat.le_of_ble_eq_true rfl) ?_
           try simp only [vcb, ↓evSo_some, ↓reduceIte, reduceCtorEq, seval])
        | refine And.intro trivial ?_
        | refine And.intro rfl ?_
        | fail
    refine TR.cv1 hP rfl (sRun1 s x) trivial (by repeat' first | exact trivial | (intro _; assumption) | apply And.intro) (by simp only [vcb, ↓evSo_some, ↓reduceIte, reduceCtorEq, seval]) ?_
    simp only [vcb, ↓evSo_some, ↓reduceIte, reduceCtorEq, seval]
    have hdl := hk.len
    repeat' first
        | refine And.intro (fun h => ?_) (fun h => ?_)
        | refine And.intro (by first | omega | (simp only [maxLen, decide_eq_true_eq, decide_eq_false_iff_not] at *; omega)) ?_
        | (refine TR.aslO rfl rfl rfl rfl trivial (Nat.le_of_ble_eq_true rfl) ?_
           try simp only [vcb, ↓evSo_some, ↓reduceIte, reduceCtorEq, seval])
        | refine And.intro trivial ?_
        | refine And.intro rfl ?_
        | fail
    · have he : (runR s x).1.2 = 1 := eq_of_beq h
      have hneg : x < 0 := by rcases hst with h | h; exact h.2; exact absurd he h.2.1
      (refine RetK.pure (by simp only [rs31, rsb, vcb, ↓evSo_some, ↓reduceIte, reduceCtorEq, seval]) (VLe.tups ?_); simp only [rs31, rsb, vcb, ↓evSo_some, ↓reduceIte, reduceCtorEq, seval])
      rw [splitR, if_neg h0, if_pos (any_neg hmx hneg), he]; exact ⟨nilK, VLe.refl _, trivial⟩
    · have hne : (runR s x).1.2 ≠ 1 := by simpa using h
      have hst2 : SpI m l (k + 1) (dn ++ [(runR s x).1.1]) (runR s x).2 (over || ((runR s x).1.2 == 5)) := by
        rcases hst with h | h
        · exact absurd h.1 hne
        · exact h.2.2
      exact lopK.on (k + 1, dn ++ [(runR s x).1.1], (runR s x).2, (over || ((runR s x).1.2 == 5))) hst2 (by simp only; omega) (Wk.snoc (k := 56) _ hfn rfl rfl rfl rfl (OLe.app1 (cells := fun n => [.int .i64 n]) (fun i hi => by simp only [if_pos hi]) (by simp)) (by (simp only [enb, vcb, ↓evSo_some, ↓reduceIte, reduceCtorEq, seval]) <;> (first | exact wS (by omega) | (rw [List.length_append]; exact wS (by omega)) | assumption)) (by simp only [enb, vcb, ↓evSo_some, ↓reduceIte, reduceCtorEq, seval]) (by simp) (by simp only [enb, vcb, ↓evSo_some, ↓reduceIte, reduceCtorEq, seval]) (by simp only [enb, vcb, ↓evSo_some, ↓reduceIte, reduceCtorEq, seval]))
  have hkl : k = l.length := by have := of_decide_eq_false h1; have := hk.le; omega
  have hnn := hk.nn
  have hst := hk.st
  have hdl := hk.len
  rw [hkl, List.take_length] at hnn hst
  rw [hkl] at hdl
  clear hk h1
  refine ⟨fun h2 => ?_, fun h2 => ?_⟩
  · have h2' : 4000000000000000000 < l.sum ∨ 4000000000000000000 < m := by
      subst h2
      rcases hst with h | h
      · have := of_decide_eq_true h.2.2.2.symm; omega
      · omega
    (refine RetK.pure (by simp only [rs31, rsb, vcb, ↓evSo_some, ↓reduceIte, reduceCtorEq, seval]) (VLe.tups ?_); simp only [rs31, rsb, vcb, ↓evSo_some, ↓reduceIte, reduceCtorEq, seval])
    rw [splitR, if_neg h0, if_neg (any_nonneg hnn), if_pos h2']; exact ⟨nilK, VLe.refl _, trivial⟩
  have hst : l.sum ≤ 4000000000000000000 ∧ dn = psums 0 l ∧ ¬ (m > 4000000000000000000) := by
    subst h2
    rcases hst with h | h
    · exact ⟨h.1, h.2.2.1, of_decide_eq_false h.2.2.2.symm⟩
    · cases h.2.2
  have h2' : ¬ (4000000000000000000 < l.sum ∨ 4000000000000000000 < m) := by omega
  have hS0 := sum_nonneg hnn
  have hbase : splitR m l = if l.sum = 0 then ([], 6) else (deal2 m l.sum 0 (psums 0 l), 0) := by
    rw [splitR, if_neg h0, if_neg (any_nonneg hnn), if_neg h2']
  have hlast : 0 < l.length → dn.getD (dn.length - 1) 0 = l.sum := fun h => by
    rw [hdl, hst.2.1, psums_last h]; omega
  have e1 : 0 < l.length → IntKind.i64.wrap ((dn.length : Int) - 1) = ((dn.length - 1 : Nat) : Int) := fun h => (wI (by omega)).trans (by omega)
  rcases Nat.eq_zero_or_pos l.length with hz | hpos
  · have hd0 : dn.length = 0 := by omega
    refine ⟨fun h => ?_, fun h => ?_, fun h => ?_, fun h => ?_⟩
    · exfalso; simp [hd0] at h
    · exfalso; simp [hd0] at h
    · have hl0 : l = [] := List.eq_nil_of_length_eq_zero hz
      (refine RetK.pure (by simp only [rs31, rsb, vcb, ↓evSo_some, ↓reduceIte, reduceCtorEq, seval]) (VLe.tups ?_); simp only [rs31, rsb, vcb, ↓evSo_some, ↓reduceIte, reduceCtorEq, seval])
      rw [hbase, if_pos (by rw [hl0]; rfl)]; exact ⟨nilK, VLe.refl _, trivial⟩
    · exfalso; simp [hd0] at h
  simp only [e1 hpos, Int.toNat_natCast, hlast hpos]
  refine ⟨fun _ => ⟨by omega, by omega⟩, fun _ => by omega, fun h => ?_, fun h => ?_⟩
  · have h' : l.sum = 0 := by
      simp only [Bool.or_eq_true, beq_iff_eq] at h; omega
    (refine RetK.pure (by simp only [rs31, rsb, vcb, ↓evSo_some, ↓reduceIte, reduceCtorEq, seval]) (VLe.tups ?_); simp only [rs31, rsb, vcb, ↓evSo_some, ↓reduceIte, reduceCtorEq, seval])
    rw [hbase, if_pos h']; exact ⟨nilK, VLe.refl _, trivial⟩
  have hSn : ¬ l.sum = 0 := by
    simp only [Bool.or_eq_false_iff, beq_eq_false_iff_ne, ne_eq] at h; exact h.2
  clear h
  rw [if_neg hSn] at hbase
  repeat' first
      | refine And.intro (fun h => ?_) (fun h => ?_)
      | refine And.intro (by first | omega | (simp only [maxLen, decide_eq_true_eq, decide_eq_false_iff_not] at *; omega)) ?_
      | (refine TR.aslO rfl rfl rfl rfl trivial (Nat.le_of_ble_eq_true rfl) ?_
         try simp only [e1 hpos, Int.toNat_natCast, hlast hpos, vcb, ↓evSo_some, ↓reduceIte, reduceCtorEq, seval])
      | refine And.intro trivial ?_
      | refine And.intro rfl ?_
      | fail
  refine vcC.loop (X := List Int × Int) (fun x => ⟨[(0, .d (.int .i64 m)), (13, .d (.int .i64 l.sum)), (14, .osl 81), (15, .d (.int .i64 x.2)), (82, .osl 1000), (83, .d (.int .i64 dn.length)), (84, .d (.int .i64 x.1.length))],
        [(1000, .row 3 1 dn.length (fun i => [.int .i64 (dn.getD i 0)])), (81, .row 3 1 dn.length (fun i => [.int .i64 (x.1.getD i 0)]))], [1000, 81]⟩)
      (fun x => x.1.length ≤ dn.length ∧ deal2 m l.sum 0 dn = x.1 ++ deal2 m l.sum x.2 (dn.drop x.1.length)) (fun x => dn.length - x.1.length) ([], 0) ⟨Nat.zero_le _, rfl⟩
      (Wk.of _ hfn rfl (by simp only [enb, vcb, ↓evSo_some, ↓reduceIte, reduceCtorEq, seval]) (by simp only [enb, vcb, ↓evSo_some, ↓reduceIte, reduceCtorEq, seval]; exact OLe.row rfl fun i _ => by simp)) ?_
  rintro ⟨out, dealt⟩ ⟨hk, he⟩
  simp only at hk he
  simp only [vcb, ↓evSo_some, ↓reduceIte, reduceCtorEq, seval]
  refine ⟨fun h1 => ?_, fun h1 => ?_⟩
  · have hlt : out.length < dn.length := by have := of_decide_eq_true h1; omega
    obtain ⟨x, hd, hg, hmx, hat⟩ := drop_at hlt
    have hxb := psums_le hnn 0 (by omega) x (by rw [← hst.2.1]; exact hmx)
    rw [hd, deal2] at he
    simp only [hg]
    repeat' first
        | (first
            | refine TR.p hP (by first | exact sDown m x l.sum hm (by omega) (by omega)) (by repeat' first | exact trivial | (intro _; assumption) | apply And.intro) ?_
            | refine TR.gp hP rfl (fun _ => by first | exact sDown m x l.sum hm (by omega) (by omega)) (fun _ => by repeat' first | exact trivial | (intro _; assumption) | apply And.intro) ?_
            | refine TR.pv hP rfl (by first | exact sDown m x l.sum hm (by omega) (by omega)) trivial (by repeat' first | exact trivial | (intro _; assumption) | apply And.intro) ?_
           try simp only [hg, vcb, ↓evSo_some, ↓reduceIte, reduceCtorEq, seval])
        | refine And.intro (fun h => ?_) (fun h => ?_)
        | refine And.intro (by first | omega | (simp only [maxLen, decide_eq_true_eq, decide_eq_false_iff_not] at *; omega)) ?_
        | (refine TR.aslO rfl rfl rfl rfl trivial (Nat.le_of_ble_eq_true rfl) ?_
           try simp only [hg, vcb, ↓evSo_some, ↓reduceIte, reduceCtorEq, seval])
        | refine And.intro trivial ?_
        | refine And.intro rfl ?_
        | fail
    exact lopK.on (out ++ [IntKind.i64.wrap ((downR m x l.sum).1 - dealt)], (downR m x l.sum).1) ⟨by simp; omega, by rw [he]; simp⟩ (by simp; omega) (Wk.of _ hfn rfl (by (simp only [enb, vcb, ↓evSo_some, ↓reduceIte, reduceCtorEq, seval]) <;> (first | exact wS (by omega) | (rw [List.length_append]; exact wS (by omega)) | assumption)) (by simp only [enb, vcb, ↓evSo_some, ↓reduceIte, reduceCtorEq, seval]; exact OLe.snoc))
  · have hkl : out.length = dn.length := by have := of_decide_eq_false h1; omega
    rw [hkl, List.drop_length, deal2, List.append_nil] at he
    repeat' first
        | refine And.intro (fun h => ?_) (fun h => ?_)
        | refine And.intro (by first | omega | (simp only [maxLen, decide_eq_true_eq, decide_eq_false_iff_not] at *; omega)) ?_
        | (refine TR.aslO rfl rfl rfl rfl trivial (Nat.le_of_ble_eq_true rfl) ?_
           try simp only [vcb, ↓evSo_some, ↓reduceIte, reduceCtorEq, seval])
        | refine And.intro trivial ?_
        | refine And.intro rfl ?_
        | fail
    refine RetK.mk _ (Wk.pub 81 rfl) (by simp only [rs31, rsb, vcb, ↓evSo_some, ↓reduceIte, reduceCtorEq, seval]) ?_ trivial
    simp only [rs31, rsb, vcb, ↓evSo_some, ↓reduceIte, reduceCtorEq, seval]
    rw [hbase, ← hst.2.1, he]
    exact VLe.tups ⟨VLe.sl hkl.symm (fun _ => rfl) id fun i hi => rfl, VLe.refl _, trivial⟩
end Go.Proofs.Ytkifajabiggfmaa
end
section
set_option linter.unusedSimpArgs false
set_option linter.unusedVariables false
namespace Go.Proofs.Ytkifajabiggfmaa
set_option linter.unusedSimpArgs false
set_option linter.unusedVariables false
open Go.Bx
set_option maxRecDepth 10000
def twoR (a b k : Nat) : Int × Int × Bool := if 4000000000000000000 < a * b / k then (0, 0, false) else (((a * b / k : Nat) : Int), ((a * b % k : Nat) : Int), true)
theorem two_step {A b k q l : Nat} (h : A * b = q * k + l) (hl : l < k) :
    2 * A * b = (2 * q + (if k ≤ 2 * l then 1 else 0)) * k + (2 * l - (if k ≤ 2 * l then k else 0)) ∧ (2 * l - (if k ≤ 2 * l then k else 0)) < k := by
  have e : 2 * A * b = 2 * (q * k) + 2 * l := by rw [Nat.mul_assoc, h]; omega
  split
  · have e2 : (2 * q + 1) * k = 2 * (q * k) + k := by rw [Nat.add_mul, Nat.mul_assoc, Nat.one_mul]
    rw [e, e2]; omega
  · have e2 : (2 * q + 0) * k = 2 * (q * k) := by rw [Nat.add_zero, Nat.mul_assoc]
    rw [e, e2]; omega
theorem two_add {X b k q l : Nat} (h : X * b = q * k + l) (hl : l < k) :
    (X + 1) * b = (q + b / k + (if k ≤ l + b % k then 1 else 0)) * k + (l + b % k - (if k ≤ l + b % k then k else 0)) ∧ (l + b % k - (if k ≤ l + b % k then k else 0)) < k := by
  have hb := Nat.div_add_mod' b k
  have hm := Nat.mod_lt b (show 0 < k by omega)
  have e : (X + 1) * b = q * k + b / k * k + (l + b % k) := by rw [Nat.add_mul, Nat.one_mul, h]; omega
  split
  · have e2 : (q + b / k + 1) * k = q * k + b / k * k + k := by rw [Nat.add_mul, Nat.add_mul, Nat.one_mul]
    rw [e, e2]; omega
  · have e2 : (q + b / k + 0) * k = q * k + b / k * k := by rw [Nat.add_zero, Nat.add_mul]
    rw [e, e2]; omega
theorem div_of {n k q l : Nat} (h : n = q * k + l) (hl : l < k) : n / k = q ∧ n % k = l := by
  have hk : 0 < k := by omega
  constructor
  · rw [h, Nat.mul_comm q k, Nat.mul_add_div hk, Nat.div_eq_of_lt hl, Nat.add_zero]
  · rw [h, Nat.mul_comm q k, Nat.mul_add_mod, Nat.mod_eq_of_lt hl]
theorem two_over {X a b k q l : Nat} (h : X * b = q * k + l) (hl : l < k) (hX : X ≤ a) (hq : 4000000000000000000 < q) : twoR a b k = (0, 0, false) := by
  have h1 := (div_of h hl).1
  have h2 : X * b / k ≤ a * b / k := Nat.div_le_div_right (Nat.mul_le_mul_right b hX)
  rw [twoR, if_pos (by omega)]
theorem two_fin {a b k q l : Nat} (h : a * b = q * k + l) (hl : l < k) (hq : q ≤ 4000000000000000000) : twoR a b k = ((q : Int), (l : Int), true) := by
  have h1 := div_of h hl
  rw [twoR, h1.1, h1.2, if_neg (by omega)]
theorem shrN (a j : Nat) (h : j ≤ 62) : (a : Int).fdiv (2 ^ min j IntKind.i64.bits) = ((a / 2 ^ j : Nat) : Int) := by
  rw [show min j IntKind.i64.bits = j from Nat.min_eq_left (Nat.le_trans h (by decide)), show (2 : Int) ^ j = ((2 ^ j : Nat) : Int) by simp]
  exact fdiv_nat _ _
theorem rTwo (a b k : Nat) (ha : a ≤ 9223372036854775807) (hb : b ≤ 9223372036854775807) (hc : k ≤ 9223372036854775807) (hk : 0 < k) :
    Ctr Try.prog 67 [.d (.int .i64 a), .d (.int .i64 b), .d (.int .i64 k)] [] (.tup [.d (.int .i64 (twoR a b k).1), .d (.int .i64 (twoR a b k).2.1), .d (.bool (twoR a b k).2.2)]) [] [] := by
  have e1 : IntKind.u64.wrap (b : Int) = (b : Int) := wU (by omega)
  have e2 : IntKind.u64.wrap (k : Int) = (k : Int) := wU (by omega)
  have e3 : IntKind.u64.wrap ((b : Int).tdiv (k : Int)) = ((b / k : Nat) : Int) := by rw [tdiv_nat, g1 _ _ (by omega)]
  have e4 : (b : Int).tmod (k : Int) = ((b % k : Nat) : Int) := tmod_nat b k
  have hbk : b / k ≤ b := Nat.div_le_self b k
  have hmk := Nat.mod_lt b hk
  generalize hw : b / k = w at *
  generalize hr : b % k = r at *
  refine ctr_pure Try.func67 ok67 rfl cc67 cr67 Try.ntmps67 (by simp) rfl rfl ?_; intro c hP hfn; simp only [kc67, e1, e2, e3, e4, vcb, ↓evSo_some, ↓reduceIte, reduceCtorEq, seval]
  repeat' first
      | refine And.intro (fun h => ?_) (fun h => ?_)
      | refine And.intro (by first | omega | (simp only [maxLen, decide_eq_true_eq, decide_eq_false_iff_not] at *; omega)) ?_
      | (refine TR.aslO rfl rfl rfl rfl trivial (Nat.le_of_ble_eq_true rfl) ?_
         try simp only [e1, e2, e3, e4, vcb, ↓evSo_some, ↓reduceIte, reduceCtorEq, seval])
      | refine And.intro trivial ?_
      | refine And.intro rfl ?_
      | fail
  refine vcC.loop (X := Nat × Nat × Nat) (fun x => ⟨[(0, .d (.int .i64 a)), (9, .d (.int .u64 x.2.1)), (10, .d (.int .u64 x.2.2)), (11, .d (.int .u64 k)), (12, .d (.int .u64 w)), (13, .d (.int .u64 r)), (14, .d (.int .i64 ((x.1 : Int) - 1)))], [], []⟩)
    (fun x => x.1 ≤ 63 ∧ a / 2 ^ x.1 * b = x.2.1 * k + x.2.2 ∧ x.2.2 < k ∧ x.2.1 ≤ 4000000000000000000) (fun x => x.1) (63, 0, 0) ⟨by omega, by rw [Nat.div_eq_of_lt (Nat.lt_of_le_of_lt ha (by decide))]; simp, hk, by simp only; omega⟩ (Wk.of [] hfn rfl (by simp only [enb, vcb, ↓evSo_some, ↓reduceIte, reduceCtorEq, seval]) (by simp only [enb, vcb, ↓evSo_some, ↓reduceIte, reduceCtorEq, seval])) ?_
  rintro ⟨j, q, l⟩ ⟨hj, he, hl, hq⟩
  simp only at hj he hl hq
  simp only [vcb, ↓evSo_some, ↓reduceIte, reduceCtorEq, seval]
  refine ⟨fun h1 => ?_, fun h1 => ?_⟩
  · have hj0 : 0 < j := by have := of_decide_eq_true h1; omega
    obtain ⟨i, rfl⟩ : ∃ i, j = i + 1 := ⟨j - 1, by omega⟩
    have f0 : (((i + 1 : Nat) : Int) - 1) = (i : Int) := by omega
    have f1 : IntKind.u64.wrap (2 * (q : Int)) = ((2 * q : Nat) : Int) := (wU (by omega)).trans (by omega)
    have f2 : IntKind.u64.wrap (2 * (l : Int)) = ((2 * l : Nat) : Int) := (wU (by omega)).trans (by omega)
    have f3 := shrN a i (by omega)
    have f4 : IntKind.i64.wrap ((i : Int) - 1) = (i : Int) - 1 := wI (by omega)
    have hA : a / 2 ^ (i + 1) = a / 2 ^ i / 2 := by rw [Nat.pow_succ, Nat.div_div_eq_div_mul]
    have f5 : ((a / 2 ^ i : Nat) : Int).tmod 2 = ((a / 2 ^ i % 2 : Nat) : Int) := tmod_nat _ 2
    have hs := two_step he hl
    have hbit : a / 2 ^ i = 2 * (a / 2 ^ (i + 1)) + a / 2 ^ i % 2 := by rw [hA]; omega
    have hX : a / 2 ^ i ≤ a := Nat.div_le_self _ _
    simp only [f0, f1, f2, Int.toNat_natCast, f3, f4, f5]
    refine ⟨fun c1 => ?_, fun c1 => ?_⟩
    · have c1' : k ≤ 2 * l := by have := of_decide_eq_true c1; omega
      rw [if_pos c1', if_pos c1'] at hs
      have gq : IntKind.u64.wrap (((2 * q : Nat) : Int) + 1) = (((2 * q + 1) : Nat) : Int) := (wU (by omega)).trans (by omega)
      have gl : IntKind.u64.wrap (((2 * l : Nat) : Int) - (k : Int)) = (((2 * l - k) : Nat) : Int) := (wU (by omega)).trans (by omega)
      simp only [gq, gl]
      have gw : IntKind.u64.wrap ((((2 * q + 1) : Nat) : Int) + (w : Int)) = (((2 * q + 1) + w : Nat) : Int) := (wU (by omega)).trans (by omega)
      have gr : IntKind.u64.wrap ((((2 * l - k) : Nat) : Int) + (r : Int)) = (((2 * l - k) + r : Nat) : Int) := (wU (by omega)).trans (by omega)
      simp only [gw, gr]
      refine ⟨by omega, fun cb => ?_, fun cb => ?_⟩
      · have cb' : a / 2 ^ i % 2 = 1 := by have := eq_of_beq cb; omega
        rw [cb'] at hbit
        have hs2 := two_add hs.1 hs.2
        rw [hw, hr, ← hbit] at hs2
        refine ⟨fun c2 => ?_, fun c2 => ?_⟩
        · have c2' : k ≤ (2 * l - k) + r := by have := of_decide_eq_true c2; omega
          rw [if_pos c2', if_pos c2'] at hs2
          have gq2 : IntKind.u64.wrap ((((2 * q + 1) + w : Nat) : Int) + 1) = (((2 * q + 1) + w + 1 : Nat) : Int) := (wU (by omega)).trans (by omega)
          have gl2 : IntKind.u64.wrap ((((2 * l - k) + r : Nat) : Int) - (k : Int)) = (((2 * l - k) + r - k : Nat) : Int) := (wU (by omega)).trans (by omega)
          simp only [gq2, gl2]
          refine ⟨fun c3 => ?_, fun c3 => ?_⟩
          · have c3' : 4000000000000000000 < (2 * q + 1) + w + 1 := by have := of_decide_eq_true c3; omega
            have e := two_over hs2.1 hs2.2 hX c3'
            (refine RetK.pure (by simp only [rs67, rsb, vcb, ↓evSo_some, ↓reduceIte, reduceCtorEq, seval]) (VLe.tups ?_); simp only [rs67, rsb, vcb, ↓evSo_some, ↓reduceIte, reduceCtorEq, seval])
            rw [e]; exact ⟨VLe.refl _, VLe.refl _, VLe.refl _, trivial⟩
          · have c3' : (2 * q + 1) + w + 1 ≤ 4000000000000000000 := by have := of_decide_eq_false c3; omega
            exact lopK.on (i, (2 * q + 1) + w + 1, (2 * l - k) + r - k) ⟨by simp only; omega, hs2.1, hs2.2, c3'⟩ (by simp only; omega) (Wk.of [] hfn rfl (by simp only [enb, vcb, ↓evSo_some, ↓reduceIte, reduceCtorEq, seval]) (by simp only [enb, vcb, ↓evSo_some, ↓reduceIte, reduceCtorEq, seval]))
        · have c2' : ¬ k ≤ (2 * l - k) + r := by have := of_decide_eq_false c2; omega
          rw [if_neg c2', if_neg c2', Nat.add_zero, Nat.sub_zero] at hs2
          refine ⟨fun c3 => ?_, fun c3 => ?_⟩
          · have c3' : 4000000000000000000 < (2 * q + 1) + w := by have := of_decide_eq_true c3; omega
            have e := two_over hs2.1 hs2.2 hX c3'
            (refine RetK.pure (by simp only [rs67, rsb, vcb, ↓evSo_some, ↓reduceIte, reduceCtorEq, seval]) (VLe.tups ?_); simp only [rs67, rsb, vcb, ↓evSo_some, ↓reduceIte, reduceCtorEq, seval])
            rw [e]; exact ⟨VLe.refl _, VLe.refl _, VLe.refl _, trivial⟩
          · have c3' : (2 * q + 1) + w ≤ 4000000000000000000 := by have := of_decide_eq_false c3; omega
            exact lopK.on (i, (2 * q + 1) + w, (2 * l - k) + r) ⟨by simp only; omega, hs2.1, hs2.2, c3'⟩ (by simp only; omega) (Wk.of [] hfn rfl (by simp only [enb, vcb, ↓evSo_some, ↓reduceIte, reduceCtorEq, seval]) (by simp only [enb, vcb, ↓evSo_some, ↓reduceIte, reduceCtorEq, seval]))
      · have cb' : a / 2 ^ i % 2 = 0 := by
          have : ((a / 2 ^ i % 2 : Nat) : Int) ≠ 1 := by simpa using cb
          omega
        rw [cb', Nat.add_zero] at hbit
        rw [← hbit] at hs
        refine ⟨fun c3 => ?_, fun c3 => ?_⟩
        · have c3' : 4000000000000000000 < (2 * q + 1) := by have := of_decide_eq_true c3; omega
          have e := two_over hs.1 hs.2 hX c3'
          (refine RetK.pure (by simp only [rs67, rsb, vcb, ↓evSo_some, ↓reduceIte, reduceCtorEq, seval]) (VLe.tups ?_); simp only [rs67, rsb, vcb, ↓evSo_some, ↓reduceIte, reduceCtorEq, seval])
          rw [e]; exact ⟨VLe.refl _, VLe.refl _, VLe.refl _, trivial⟩
        · have c3' : (2 * q + 1) ≤ 4000000000000000000 := by have := of_decide_eq_false c3; omega
          exact lopK.on (i, (2 * q + 1), (2 * l - k)) ⟨by simp only; omega, hs.1, hs.2, c3'⟩ (by simp only; omega) (Wk.of [] hfn rfl (by simp only [enb, vcb, ↓evSo_some, ↓reduceIte, reduceCtorEq, seval]) (by simp only [enb, vcb, ↓evSo_some, ↓reduceIte, reduceCtorEq, seval]))
    · have c1' : ¬ k ≤ 2 * l := by have := of_decide_eq_false c1; omega
      rw [if_neg c1', if_neg c1', Nat.add_zero, Nat.sub_zero] at hs
      have gw : IntKind.u64.wrap ((((2 * q) : Nat) : Int) + (w : Int)) = (((2 * q) + w : Nat) : Int) := (wU (by omega)).trans (by omega)
      have gr : IntKind.u64.wrap ((((2 * l) : Nat) : Int) + (r : Int)) = (((2 * l) + r : Nat) : Int) := (wU (by omega)).trans (by omega)
      simp only [gw, gr]
      refine ⟨by omega, fun cb => ?_, fun cb => ?_⟩
      · have cb' : a / 2 ^ i % 2 = 1 := by have := eq_of_beq cb; omega
        rw [cb'] at hbit
        have hs2 := two_add hs.1 hs.2
        rw [hw, hr, ← hbit] at hs2
        refine ⟨fun c2 => ?_, fun c2 => ?_⟩
        · have c2' : k ≤ (2 * l) + r := by have := of_decide_eq_true c2; omega
          rw [if_pos c2', if_pos c2'] at hs2
          have gq2 : IntKind.u64.wrap ((((2 * q) + w : Nat) : Int) + 1) = (((2 * q) + w + 1 : Nat) : Int) := (wU (by omega)).trans (by omega)
          have gl2 : IntKind.u64.wrap ((((2 * l) + r : Nat) : Int) - (k : Int)) = (((2 * l) + r - k : Nat) : Int) := (wU (by omega)).trans (by omega)
          simp only [gq2, gl2]
          refine ⟨fun c3 => ?_, fun c3 => ?_⟩
          · have c3' : 4000000000000000000 < (2 * q) + w + 1 := by have := of_decide_eq_true c3; omega
            have e := two_over hs2.1 hs2.2 hX c3'
            (refine RetK.pure (by simp only [rs67, rsb, vcb, ↓evSo_some, ↓reduceIte, reduceCtorEq, seval]) (VLe.tups ?_); simp only [rs67, rsb, vcb, ↓evSo_some, ↓reduceIte, reduceCtorEq, seval])
            rw [e]; exact ⟨VLe.refl _, VLe.refl _, VLe.refl _, trivial⟩
          · have c3' : (2 * q) + w + 1 ≤ 4000000000000000000 := by have := of_decide_eq_false c3; omega
            exact lopK.on (i, (2 * q) + w + 1, (2 * l) + r - k) ⟨by simp only; omega, hs2.1, hs2.2, c3'⟩ (by simp only; omega) (Wk.of [] hfn rfl (by simp only [enb, vcb, ↓evSo_some, ↓reduceIte, reduceCtorEq, seval]) (by simp only [enb, vcb, ↓evSo_some, ↓reduceIte, reduceCtorEq, seval]))
        · have c2' : ¬ k ≤ (2 * l) + r := by have := of_decide_eq_false c2; omega
          rw [if_neg c2', if_neg c2', Nat.add_zero, Nat.sub_zero] at hs2
          refine ⟨fun c3 => ?_, fun c3 => ?_⟩
          · have c3' : 4000000000000000000 < (2 * q) + w := by have := of_decide_eq_true c3; omega
            have e := two_over hs2.1 hs2.2 hX c3'
            (refine RetK.pure (by simp only [rs67, rsb, vcb, ↓evSo_some, ↓reduceIte, reduceCtorEq, seval]) (VLe.tups ?_); simp only [rs67, rsb, vcb, ↓evSo_some, ↓reduceIte, reduceCtorEq, seval])
            rw [e]; exact ⟨VLe.refl _, VLe.refl _, VLe.refl _, trivial⟩
          · have c3' : (2 * q) + w ≤ 4000000000000000000 := by have := of_decide_eq_false c3; omega
            exact lopK.on (i, (2 * q) + w, (2 * l) + r) ⟨by simp only; omega, hs2.1, hs2.2, c3'⟩ (by simp only; omega) (Wk.of [] hfn rfl (by simp only [enb, vcb, ↓evSo_some, ↓reduceIte, reduceCtorEq, seval]) (by simp only [enb, vcb, ↓evSo_some, ↓reduceIte, reduceCtorEq, seval]))
      · have cb' : a / 2 ^ i % 2 = 0 := by
          have : ((a / 2 ^ i % 2 : Nat) : Int) ≠ 1 := by simpa using cb
          omega
        rw [cb', Nat.add_zero] at hbit
        rw [← hbit] at hs
        refine ⟨fun c3 => ?_, fun c3 => ?_⟩
        · have c3' : 4000000000000000000 < (2 * q) := by have := of_decide_eq_true c3; omega
          have e := two_over hs.1 hs.2 hX c3'
          (refine RetK.pure (by simp only [rs67, rsb, vcb, ↓evSo_some, ↓reduceIte, reduceCtorEq, seval]) (VLe.tups ?_); simp only [rs67, rsb, vcb, ↓evSo_some, ↓reduceIte, reduceCtorEq, seval])
          rw [e]; exact ⟨VLe.refl _, VLe.refl _, VLe.refl _, trivial⟩
        · have c3' : (2 * q) ≤ 4000000000000000000 := by have := of_decide_eq_false c3; omega
          exact lopK.on (i, (2 * q), (2 * l)) ⟨by simp only; omega, hs.1, hs.2, c3'⟩ (by simp only; omega) (Wk.of [] hfn rfl (by simp only [enb, vcb, ↓evSo_some, ↓reduceIte, reduceCtorEq, seval]) (by simp only [enb, vcb, ↓evSo_some, ↓reduceIte, reduceCtorEq, seval]))
  · have hj0 : j = 0 := by have := of_decide_eq_false h1; omega
    subst hj0
    rw [Nat.pow_zero, Nat.div_one] at he
    have e := two_fin he hl hq
    repeat' first
        | refine And.intro (fun h => ?_) (fun h => ?_)
        | refine And.intro (by first | omega | (simp only [maxLen, decide_eq_true_eq, decide_eq_false_iff_not] at *; omega)) ?_
        | (refine TR.aslO rfl rfl rfl rfl trivial (Nat.le_of_ble_eq_true rfl) ?_
           try simp only [vcb, ↓evSo_some, ↓reduceIte, reduceCtorEq, seval])
        | refine And.intro trivial ?_
        | refine And.intro rfl ?_
        | fail
    (refine RetK.pure (by simp only [rs67, rsb, vcb, ↓evSo_some, ↓reduceIte, reduceCtorEq, seval]) (VLe.tups ?_); simp only [rs67, rsb, vcb, ↓evSo_some, ↓reduceIte, reduceCtorEq, seval])
    rw [e, wI (by omega), wI (by omega)]; exact ⟨VLe.refl _, VLe.refl _, VLe.refl _, trivial⟩
def chk (a b k : Int) : Int := if a < 0 ∨ b < 0 ∨ k < 0 then 1 else if k = 0 then 6 else 0
theorem rChk (a b k : Int) : Ctr Try.prog 66 [.d (.int .i64 a), .d (.int .i64 b), .d (.int .i64 k)] [] (.d (.int .i64 (chk a b k))) [] [] := by
  refine ctr_pure Try.func66 ok66 rfl cc66 cr66 Try.ntmps66 (by simp) rfl rfl ?_; intro c hP hfn; simp only [kc66, vcb, ↓evSo_some, ↓reduceIte, reduceCtorEq, seval]
  refine ⟨fun h => ?_, fun h => ⟨fun h2 => ?_, fun h2 => ?_⟩⟩
  · have h' : a < 0 ∨ b < 0 ∨ k < 0 := by simp only [Bool.or_eq_true, decide_eq_true_eq] at h; omega
    exact RetK.pure (by simp only [rs66, rsb, vcb, ↓evSo_some, ↓reduceIte, reduceCtorEq, seval]) (by (simp only [rs66, rsb, vcb, ↓evSo_some, ↓reduceIte, reduceCtorEq, seval, enb, vcb, ↓evSo_some, ↓reduceIte, reduceCtorEq, seval]) <;> (first | rw [chk, if_pos h']))
  · have h' : ¬ (a < 0 ∨ b < 0 ∨ k < 0) := by simp only [Bool.or_eq_false_iff, decide_eq_false_iff_not] at h; omega
    have h2' : k = 0 := by simpa using h2
    exact RetK.pure (by simp only [rs66, rsb, vcb, ↓evSo_some, ↓reduceIte, reduceCtorEq, seval]) (by (simp only [rs66, rsb, vcb, ↓evSo_some, ↓reduceIte, reduceCtorEq, seval, enb, vcb, ↓evSo_some, ↓reduceIte, reduceCtorEq, seval]) <;> (first | rw [chk, if_neg h', if_pos h2']))
  · have h' : ¬ (a < 0 ∨ b < 0 ∨ k < 0) := by simp only [Bool.or_eq_false_iff, decide_eq_false_iff_not] at h; omega
    have h2' : ¬ k = 0 := by simpa using h2
    exact RetK.pure (by simp only [rs66, rsb, vcb, ↓evSo_some, ↓reduceIte, reduceCtorEq, seval]) (by (simp only [rs66, rsb, vcb, ↓evSo_some, ↓reduceIte, reduceCtorEq, seval, enb, vcb, ↓evSo_some, ↓reduceIte, reduceCtorEq, seval]) <;> (first | rw [chk, if_neg h', if_neg h2']))
theorem of_chk {up : Nat → Nat → Nat → Bool} {a b k : Int} (h : chk a b k ≠ 0) : ofR up a b k = (0, chk a b k) := by
  unfold chk at h ⊢
  unfold ofR
  by_cases h1 : a < 0 ∨ b < 0 ∨ k < 0
  · rw [if_pos h1, if_pos h1]
  · by_cases h2 : k = 0
    · rw [if_neg h1, if_pos h2, if_neg h1, if_pos h2]
    · rw [if_neg h1, if_neg h2] at h; exact absurd rfl h
theorem chk_ok {a b k : Int} (h : chk a b k = 0) : 0 ≤ a ∧ 0 ≤ b ∧ 0 < k := by
  unfold chk at h
  by_cases h1 : a < 0 ∨ b < 0 ∨ k < 0
  · rw [if_pos h1] at h; cases h
  · by_cases h2 : k = 0
    · rw [if_neg h1, if_pos h2] at h; cases h
    · omega
theorem ofR_nat {up : Nat → Nat → Nat → Bool} (A B K : Nat) (hk : 0 < K) : ofR up (A : Int) (B : Int) (K : Int) = (if 4000000000000000000 < A * B / K then (0, 5) else
      if 4000000000000000000 < A * B / K + (if up (A * B / K) (A * B % K) K = true then 1 else 0) then (0, 5)
      else (((A * B / K + (if up (A * B / K) (A * B % K) K = true then 1 else 0) : Nat) : Int), 0)) := by
  rw [ofR, if_neg (by omega), if_neg (by omega)]; rfl
end Go.Proofs.Ytkifajabiggfmaa
end
section
set_option linter.unusedSimpArgs false
set_option linter.unusedVariables false
namespace Go.Proofs.Ytkifajabiggfmaa
set_option linter.unusedSimpArgs false
set_option linter.unusedVariables false
open Go.Bx
set_option maxRecDepth 10000
theorem rDown (a b k : Int) (ha : a ≤ 9223372036854775807) (hb : b ≤ 9223372036854775807) (hc : k ≤ 9223372036854775807) :
    Ctr Try.prog 57 [.d (.int .i64 a), .d (.int .i64 b), .d (.int .i64 k)] [] (.tup [.d (.int .i64 (downR a b k).1), .d (.int .i64 (downR a b k).2)]) [] [] := by
  refine ctr_pure Try.func57 ok57 rfl cc57 cr57 Try.ntmps57 (by simp) rfl rfl ?_; intro c hP hfn; simp only [kc57, vcb, ↓evSo_some, ↓reduceIte, reduceCtorEq, seval]
  repeat' first
      | (first
          | refine TR.p hP (by first | exact rChk a b k) (by repeat' first | exact trivial | (intro _; assumption) | apply And.intro) ?_
          | refine TR.gp hP rfl (fun _ => by first | exact rChk a b k) (fun _ => by repeat' first | exact trivial | (intro _; assumption) | apply And.intro) ?_
          | refine TR.pv hP rfl (by first | exact rChk a b k) trivial (by repeat' first | exact trivial | (intro _; assumption) | apply And.intro) ?_
         try simp only [vcb, ↓evSo_some, ↓reduceIte, reduceCtorEq, seval])
      | refine And.intro (fun h => ?_) (fun h => ?_)
      | refine And.intro (by first | omega | (simp only [maxLen, decide_eq_true_eq, decide_eq_false_iff_not] at *; omega)) ?_
      | (refine TR.aslO rfl rfl rfl rfl trivial (Nat.le_of_ble_eq_true rfl) ?_
         try simp only [vcb, ↓evSo_some, ↓reduceIte, reduceCtorEq, seval])
      | refine And.intro trivial ?_
      | refine And.intro rfl ?_
      | fail
  · have e := of_chk (up := upD) (show chk a b k ≠ 0 by simpa using h)
    (refine RetK.pure (by simp only [rs57, rsb, vcb, ↓evSo_some, ↓reduceIte, reduceCtorEq, seval]) (VLe.tups ?_); simp only [rs57, rsb, vcb, ↓evSo_some, ↓reduceIte, reduceCtorEq, seval])
    rw [downR, e]; exact ⟨VLe.refl _, VLe.refl _, trivial⟩
  have hq := chk_ok (show chk a b k = 0 by simpa using h)
  obtain ⟨A, rfl⟩ : ∃ A : Nat, a = (A : Int) := ⟨a.toNat, by omega⟩
  obtain ⟨B, rfl⟩ : ∃ B : Nat, b = (B : Int) := ⟨b.toNat, by omega⟩
  obtain ⟨K, rfl⟩ : ∃ K : Nat, k = (K : Int) := ⟨k.toNat, by omega⟩
  have hk0 : 0 < K := by omega
  have e := ofR_nat (up := upD) A B K hk0
  have c23 := rTwo A B K (by omega) (by omega) (by omega) hk0
  by_cases h4 : 4000000000000000000 < A * B / K
  · rw [twoR, if_pos h4] at c23
    repeat' first
        | (first
            | refine TR.p hP (by first | exact c23) (by repeat' first | exact trivial | (intro _; assumption) | apply And.intro) ?_
            | refine TR.gp hP rfl (fun _ => by first | exact c23) (fun _ => by repeat' first | exact trivial | (intro _; assumption) | apply And.intro) ?_
            | refine TR.pv hP rfl (by first | exact c23) trivial (by repeat' first | exact trivial | (intro _; assumption) | apply And.intro) ?_
           try simp only [vcb, ↓evSo_some, ↓reduceIte, reduceCtorEq, seval])
        | refine And.intro (fun h => ?_) (fun h => ?_)
        | refine And.intro (by first | omega | (simp only [maxLen, decide_eq_true_eq, decide_eq_false_iff_not] at *; omega)) ?_
        | (refine TR.aslO rfl rfl rfl rfl trivial (Nat.le_of_ble_eq_true rfl) ?_
           try simp only [vcb, ↓evSo_some, ↓reduceIte, reduceCtorEq, seval])
        | refine And.intro trivial ?_
        | refine And.intro rfl ?_
        | fail
    (refine RetK.pure (by simp only [rs57, rsb, vcb, ↓evSo_some, ↓reduceIte, reduceCtorEq, seval]) (VLe.tups ?_); simp only [rs57, rsb, vcb, ↓evSo_some, ↓reduceIte, reduceCtorEq, seval])
    rw [downR, e, if_pos h4]; exact ⟨VLe.refl _, VLe.refl _, trivial⟩
  · rw [twoR, if_neg h4] at c23
    simp only [if_neg h4, upD, Bool.false_eq_true, if_false, Nat.add_zero] at e
    repeat' first
        | (first
            | refine TR.p hP (by first | exact c23) (by repeat' first | exact trivial | (intro _; assumption) | apply And.intro) ?_
            | refine TR.gp hP rfl (fun _ => by first | exact c23) (fun _ => by repeat' first | exact trivial | (intro _; assumption) | apply And.intro) ?_
            | refine TR.pv hP rfl (by first | exact c23) trivial (by repeat' first | exact trivial | (intro _; assumption) | apply And.intro) ?_
           try simp only [vcb, ↓evSo_some, ↓reduceIte, reduceCtorEq, seval])
        | refine And.intro (fun h => ?_) (fun h => ?_)
        | refine And.intro (by first | omega | (simp only [maxLen, decide_eq_true_eq, decide_eq_false_iff_not] at *; omega)) ?_
        | (refine TR.aslO rfl rfl rfl rfl trivial (Nat.le_of_ble_eq_true rfl) ?_
           try simp only [vcb, ↓evSo_some, ↓reduceIte, reduceCtorEq, seval])
        | refine And.intro trivial ?_
        | refine And.intro rfl ?_
        | fail
    (refine RetK.pure (by simp only [rs57, rsb, vcb, ↓evSo_some, ↓reduceIte, reduceCtorEq, seval]) (VLe.tups ?_); simp only [rs57, rsb, vcb, ↓evSo_some, ↓reduceIte, reduceCtorEq, seval])
    rw [downR]
    have e' : ofR upD (A : Int) (B : Int) (K : Int) = (((A * B / K : Nat) : Int), 0) := e
    rw [e']; exact ⟨VLe.refl _, VLe.refl _, trivial⟩
def sum1R (l : List Int) : Int × Bool := if 4000000000000000000 < l.sum then (0, false) else (l.sum, true)
theorem sum_take_le {l : List Int} (h : ∀ x, x ∈ l → 0 ≤ x) (k : Nat) : (l.take k).sum ≤ l.sum ∧ 0 ≤ (l.take k).sum := by
  have e : l.sum = (l.take k).sum + (l.drop k).sum := by
    conv => lhs; rw [← List.take_append_drop k l, List.sum_append]
  have h1 := sum_nonneg (l := l.drop k) (fun x hx => h x (List.mem_of_mem_drop hx))
  have h2 := sum_nonneg (l := l.take k) (fun x hx => h x (List.mem_of_mem_take hx))
  omega
theorem rSum (l : List Int) (hl : l.length ≤ 9223372036854775807) (h0 : ∀ x, x ∈ l → 0 ≤ x) :
    Ctr Try.prog 36 [.d (slK .i64 l)] [] (.tup [.d (.int .i64 (sum1R l).1), .d (.bool (sum1R l).2)]) [] [] := by
  refine ctr_pure Try.func36 ok36 rfl cc36 cr36 Try.ntmps36 (by simp) rfl rfl ?_; intro c hP hfn; simp only [kc36, vcb, ↓evSo_some, ↓reduceIte, reduceCtorEq, seval]
  refine vcC.loop (X := Nat) (fun k => ⟨[(0, .d (slK .i64 l)), (4, .d (.int .i64 (l.take k).sum)), (5, .d (.int .i64 k))], [], []⟩)
    (fun k => k ≤ l.length ∧ (l.take k).sum ≤ 4000000000000000000) (fun k => l.length - k) 0 ⟨Nat.zero_le _, by simp⟩ (Wk.of _ hfn rfl (by simp only [List.take_zero, List.sum_nil, enb, vcb, ↓evSo_some, ↓reduceIte, reduceCtorEq, seval]) (by simp only [enb, vcb, ↓evSo_some, ↓reduceIte, reduceCtorEq, seval])) ?_
  rintro k ⟨hk, hs⟩
  simp only [vcb, ↓evSo_some, ↓reduceIte, reduceCtorEq, seval]
  refine ⟨fun h1 => ?_, fun h1 => ?_⟩
  · have hlt : k < l.length := by have := of_decide_eq_true h1; omega
    obtain ⟨x, hd, hg, hxm, hat⟩ := drop_at hlt
    have ht : l.take (k + 1) = l.take k ++ [x] := by rw [List.take_add_one, hat]; rfl
    have hts : (l.take (k + 1)).sum = (l.take k).sum + x := by rw [ht, List.sum_append]; simp
    have hx0 := h0 x hxm
    have hb := sum_take_le h0 k
    have hb1 := sum_take_le h0 (k + 1)
    have ew : IntKind.i64.wrap (4000000000000000000 - (l.take k).sum) = 4000000000000000000 - (l.take k).sum := wI (by omega)
    simp only [hg, ew, vcb, ↓evSo_some, ↓reduceIte, reduceCtorEq, seval]
    repeat' first
        | refine And.intro (fun h => ?_) (fun h => ?_)
        | refine And.intro (by first | omega | (simp only [maxLen, decide_eq_true_eq, decide_eq_false_iff_not] at *; omega)) ?_
        | (refine TR.aslO rfl rfl rfl rfl trivial (Nat.le_of_ble_eq_true rfl) ?_
           try simp only [hg, ew, vcb, ↓evSo_some, ↓reduceIte, reduceCtorEq, seval])
        | refine And.intro trivial ?_
        | refine And.intro rfl ?_
        | fail
    · have h' := of_decide_eq_true h
      have e : sum1R l = (0, false) := by rw [sum1R, if_pos (by omega)]
      (refine RetK.pure (by simp only [rs36, rsb, vcb, ↓evSo_some, ↓reduceIte, reduceCtorEq, seval]) (VLe.tups ?_); simp only [rs36, rsb, vcb, ↓evSo_some, ↓reduceIte, reduceCtorEq, seval])
      rw [e]; exact ⟨VLe.refl _, VLe.refl _, trivial⟩
    · have h' := of_decide_eq_false h
      have ew2 : IntKind.i64.wrap ((l.take k).sum + x) = (l.take (k + 1)).sum := by rw [hts]; exact wI (by omega)
      exact lopK.on (k + 1) ⟨hlt, by omega⟩ (by omega) (Wk.of _ hfn rfl (by simp only [ew2, enb, vcb, ↓evSo_some, ↓reduceIte, reduceCtorEq, seval]; exact wS (by omega)) (by simp only [enb, vcb, ↓evSo_some, ↓reduceIte, reduceCtorEq, seval]))
  · have hkl : k = l.length := by have := of_decide_eq_false h1; omega
    rw [hkl, List.take_length] at hs ⊢
    have e : sum1R l = (l.sum, true) := by rw [sum1R, if_neg (by omega)]
    (refine RetK.pure (by simp only [rs36, rsb, vcb, ↓evSo_some, ↓reduceIte, reduceCtorEq, seval]) (VLe.tups ?_); simp only [rs36, rsb, vcb, ↓evSo_some, ↓reduceIte, reduceCtorEq, seval])
    rw [e]; exact ⟨VLe.refl _, VLe.refl _, trivial⟩
theorem deal2_len (m S : Int) : ∀ (l : List Int) (d : Int), (deal2 m S d l).length = l.length
  | [], _ => rfl
  | s :: r, d => by simp [deal2, deal2_len m S r]
set_option maxHeartbeats 2000000 in
theorem rSplit (m : Int) (l : List Int) (hm : m ≤ 9223372036854775807) (hl : l.length ≤ 9223372036854775807) :
    Ctr Try.prog 38 [.d (.int .i64 m), .d (slK .i64 l)] [] (.tup [.d (slK .i64 (splitR m l).1), .d (.int .i64 (splitR m l).2)]) [] [] := by
  refine ctr_pure Try.func38 ok38 rfl cc38 cr38 Try.ntmps38 (by simp) rfl rfl ?_; intro c hP hfn; simp only [kc38, vcb, ↓evSo_some, ↓reduceIte, reduceCtorEq, seval]
  refine ⟨fun h => ?_, fun h => ?_⟩
  · have h' : m < 0 ∨ 2000 < l.length := by simp only [Bool.or_eq_true, decide_eq_true_eq] at h; omega
    have e : splitR m l = ([], 1) := by rw [splitR, if_pos h']
    repeat' first
        | refine And.intro (fun h => ?_) (fun h => ?_)
        | refine And.intro (by first | omega | (simp only [maxLen, decide_eq_true_eq, decide_eq_false_iff_not] at *; omega)) ?_
        | (refine TR.aslO rfl rfl rfl rfl trivial (Nat.le_of_ble_eq_true rfl) ?_
           try simp only [vcb, ↓evSo_some, ↓reduceIte, reduceCtorEq, seval])
        | refine And.intro trivial ?_
        | refine And.intro rfl ?_
        | fail
    (refine RetK.pure (by simp only [rs38, rsb, vcb, ↓evSo_some, ↓reduceIte, reduceCtorEq, seval]) (VLe.tups ?_); simp only [rs38, rsb, vcb, ↓evSo_some, ↓reduceIte, reduceCtorEq, seval])
    rw [e]; exact ⟨nilK, VLe.refl _, trivial⟩
  have h' : ¬ (m < 0 ∨ 2000 < l.length) := by simp only [Bool.or_eq_false_iff, decide_eq_false_iff_not] at h; omega
  have e : splitR m l = if l.any (fun p => decide (p < 0)) = true then ([], 1)
    else if 4000000000000000000 < l.sum ∨ 4000000000000000000 < m then ([], 5) else if l.sum = 0 then ([], 6) else (deal2 m l.sum 0 (psums 0 l), 0) := by rw [splitR, if_neg h']
  clear h
  repeat' first
      | refine And.intro (fun h => ?_) (fun h => ?_)
      | refine And.intro (by first | omega | (simp only [maxLen, decide_eq_true_eq, decide_eq_false_iff_not] at *; omega)) ?_
      | (refine TR.aslO rfl rfl rfl rfl trivial (Nat.le_of_ble_eq_true rfl) ?_
         try simp only [vcb, ↓evSo_some, ↓reduceIte, reduceCtorEq, seval])
      | refine And.intro trivial ?_
      | refine And.intro rfl ?_
      | fail
  refine vcC.loop (X := Nat) (fun k => ⟨[(0, .d (.int .i64 m)), (1, .d (slK .i64 l)), (6, .d (.int .i64 k))], [], []⟩)
    (fun k => k ≤ l.length ∧ l.any (fun p => decide (p < 0)) = (l.drop k).any (fun p => decide (p < 0))) (fun k => l.length - k) 0 ⟨Nat.zero_le _, rfl⟩ (Wk.of _ hfn rfl (by (simp only [enb, vcb, ↓evSo_some, ↓reduceIte, reduceCtorEq, seval]) <;> (first | exact wS (by omega) | (rw [List.length_append]; exact wS (by omega)) | assumption)) (by simp only [enb, vcb, ↓evSo_some, ↓reduceIte, reduceCtorEq, seval])) ?_
  rintro k ⟨hk, he⟩
  simp only [vcb, ↓evSo_some, ↓reduceIte, reduceCtorEq, seval]
  refine ⟨fun h1 => ?_, fun h1 => ?_⟩
  · have hlt : k < l.length := by have := of_decide_eq_true h1; omega
    obtain ⟨x, hd, hg, hxm, -⟩ := drop_at hlt
    rw [hd, List.any_cons] at he
    simp only [hg, vcb, ↓evSo_some, ↓reduceIte, reduceCtorEq, seval]
    repeat' first
        | refine And.intro (fun h => ?_) (fun h => ?_)
        | refine And.intro (by first | omega | (simp only [maxLen, decide_eq_true_eq, decide_eq_false_iff_not] at *; omega)) ?_
        | (refine TR.aslO rfl rfl rfl rfl trivial (Nat.le_of_ble_eq_true rfl) ?_
           try simp only [hg, vcb, ↓evSo_some, ↓reduceIte, reduceCtorEq, seval])
        | refine And.intro trivial ?_
        | refine And.intro rfl ?_
        | fail
    · rw [h, Bool.true_or] at he
      rw [if_pos he] at e
      (refine RetK.pure (by simp only [rs38, rsb, vcb, ↓evSo_some, ↓reduceIte, reduceCtorEq, seval]) (VLe.tups ?_); simp only [rs38, rsb, vcb, ↓evSo_some, ↓reduceIte, reduceCtorEq, seval])
      rw [e]; exact ⟨nilK, VLe.refl _, trivial⟩
    · rw [h, Bool.false_or] at he
      exact lopK.on (k + 1) ⟨hlt, he⟩ (by omega) (Wk.of _ hfn rfl (by (simp only [enb, vcb, ↓evSo_some, ↓reduceIte, reduceCtorEq, seval]) <;> (first | exact wS (by omega) | (rw [List.length_append]; exact wS (by omega)) | assumption)) (by simp only [enb, vcb, ↓evSo_some, ↓reduceIte, reduceCtorEq, seval]))
  have hkl : k = l.length := by have := of_decide_eq_false h1; omega
  rw [hkl, List.drop_length, List.any_nil] at he
  have h0 : ∀ x, x ∈ l → 0 ≤ x := fun x hx => by
    have := List.any_eq_false.1 he x hx
    simpa using this
  rw [if_neg (by rw [he]; simp)] at e
  clear he h1 hk hkl
  have cs := rSum l hl h0
  have hs0 := sum_nonneg h0
  by_cases hS : 4000000000000000000 < l.sum
  · rw [sum1R, if_pos hS] at cs
    rw [if_pos (.inl hS)] at e
    repeat' first
        | (first
            | refine TR.p hP (by first | exact cs) (by repeat' first | exact trivial | (intro _; assumption) | apply And.intro) ?_
            | refine TR.gp hP rfl (fun _ => by first | exact cs) (fun _ => by repeat' first | exact trivial | (intro _; assumption) | apply And.intro) ?_
            | refine TR.pv hP rfl (by first | exact cs) trivial (by repeat' first | exact trivial | (intro _; assumption) | apply And.intro) ?_
           try simp only [vcb, ↓evSo_some, ↓reduceIte, reduceCtorEq, seval])
        | refine And.intro (fun h => ?_) (fun h => ?_)
        | refine And.intro (by first | omega | (simp only [maxLen, decide_eq_true_eq, decide_eq_false_iff_not] at *; omega)) ?_
        | (refine TR.aslO rfl rfl rfl rfl trivial (Nat.le_of_ble_eq_true rfl) ?_
           try simp only [vcb, ↓evSo_some, ↓reduceIte, reduceCtorEq, seval])
        | refine And.intro trivial ?_
        | refine And.intro rfl ?_
        | fail
    (refine RetK.pure (by simp only [rs38, rsb, vcb, ↓evSo_some, ↓reduceIte, reduceCtorEq, seval]) (VLe.tups ?_); simp only [rs38, rsb, vcb, ↓evSo_some, ↓reduceIte, reduceCtorEq, seval])
    rw [e]; exact ⟨nilK, VLe.refl _, trivial⟩
  rw [sum1R, if_neg hS] at cs
  repeat' first
      | (first
          | refine TR.p hP (by first | exact cs) (by repeat' first | exact trivial | (intro _; assumption) | apply And.intro) ?_
          | refine TR.gp hP rfl (fun _ => by first | exact cs) (fun _ => by repeat' first | exact trivial | (intro _; assumption) | apply And.intro) ?_
          | refine TR.pv hP rfl (by first | exact cs) trivial (by repeat' first | exact trivial | (intro _; assumption) | apply And.intro) ?_
         try simp only [vcb, ↓evSo_some, ↓reduceIte, reduceCtorEq, seval])
      | refine And.intro (fun h => ?_) (fun h => ?_)
      | refine And.intro (by first | omega | (simp only [maxLen, decide_eq_true_eq, decide_eq_false_iff_not] at *; omega)) ?_
      | (refine TR.aslO rfl rfl rfl rfl trivial (Nat.le_of_ble_eq_true rfl) ?_
         try simp only [vcb, ↓evSo_some, ↓reduceIte, reduceCtorEq, seval])
      | refine And.intro trivial ?_
      | refine And.intro rfl ?_
      | fail
  · have h'' : 4000000000000000000 < m := by have := of_decide_eq_true h; omega
    rw [if_pos (.inr h'')] at e
    (refine RetK.pure (by simp only [rs38, rsb, vcb, ↓evSo_some, ↓reduceIte, reduceCtorEq, seval]) (VLe.tups ?_); simp only [rs38, rsb, vcb, ↓evSo_some, ↓reduceIte, reduceCtorEq, seval])
    rw [e]; exact ⟨nilK, VLe.refl _, trivial⟩
  · have h'' : l.sum = 0 := by simpa using h
    have h9 : ¬ (4000000000000000000 < l.sum ∨ 4000000000000000000 < m) := by rename_i h8; have := of_decide_eq_false h8; omega
    rw [if_neg h9, if_pos h''] at e
    (refine RetK.pure (by simp only [rs38, rsb, vcb, ↓evSo_some, ↓reduceIte, reduceCtorEq, seval]) (VLe.tups ?_); simp only [rs38, rsb, vcb, ↓evSo_some, ↓reduceIte, reduceCtorEq, seval])
    rw [e]; exact ⟨nilK, VLe.refl _, trivial⟩
  have h'' : ¬ l.sum = 0 := by simpa using h
  have h9 : ¬ (4000000000000000000 < l.sum ∨ 4000000000000000000 < m) := by rename_i h8; have := of_decide_eq_false h8; omega
  rw [if_neg h9, if_neg h''] at e
  refine vcC.loop (X := List Int × Int) (fun x => ⟨[(0, .d (.int .i64 m)), (1, .d (slK .i64 l)), (7, .d (.int .i64 l.sum)), (9, .osl 1000), (10, .d (.int .i64 (l.take x.1.length).sum)), (11, .d (.int .i64 x.2)), (12, .d (.int .i64 x.1.length))],
      [(1000, .row 3 1 x.1.length (fun i => [.int .i64 (x.1.getD i 0)]))], [1000]⟩)
    (fun x => x.1.length ≤ l.length ∧ deal2 m l.sum 0 (psums 0 l) = x.1 ++ deal2 m l.sum x.2 (psums (l.take x.1.length).sum (l.drop x.1.length))) (fun x => l.length - x.1.length) ([], 0) ⟨Nat.zero_le _, by simp⟩
    ((Wk.row0 (s := 9) (k := 1000) (e := 3) (sz := 1) (f' := fun _ => []) rfl rfl (by simp)).trans (Wk.of _ hfn rfl (by (simp only [List.length_nil, List.take_zero, List.sum_nil, enb, vcb, ↓evSo_some, ↓reduceIte, reduceCtorEq, seval]) <;> (first | exact wS (by omega) | (rw [List.length_append]; exact wS (by omega)) | assumption)) (by simp only [List.length_nil, List.take_zero, List.sum_nil, enb, vcb, ↓evSo_some, ↓reduceIte, reduceCtorEq, seval]; exact OLe.row rfl (fun i hi => absurd hi (Nat.not_lt_zero i))))) ?_
  rintro ⟨acc, d⟩ ⟨hk, he⟩
  simp only at hk he
  simp only [vcb, ↓evSo_some, ↓reduceIte, reduceCtorEq, seval]
  refine ⟨fun h1 => ?_, fun h1 => ?_⟩
  · have hlt : acc.length < l.length := by have := of_decide_eq_true h1; omega
    obtain ⟨x, hd, hg, hxm, hat⟩ := drop_at hlt
    have ht : l.take (acc.length + 1) = l.take acc.length ++ [x] := by rw [List.take_add_one, hat]; rfl
    have hts : (l.take (acc.length + 1)).sum = (l.take acc.length).sum + x := by rw [ht, List.sum_append]; simp
    have hb := sum_take_le h0 acc.length
    have hb1 := sum_take_le h0 (acc.length + 1)
    have ew : IntKind.i64.wrap ((l.take acc.length).sum + x) = (l.take (acc.length + 1)).sum := by rw [hts]; exact wI (by omega)
    rw [hd, psums, deal2, ← hts] at he
    have cd := rDown m (l.take (acc.length + 1)).sum l.sum hm (by omega) (by omega)
    have hbytes : (acc.length + 1) * 8 ≤ 140737488355328 := by omega
    have hmx : acc.length + 1 ≤ maxLen := by simp only [maxLen]; omega
    simp only [hg, ew, vcb, ↓evSo_some, ↓reduceIte, reduceCtorEq, seval]
    repeat' first
        | (first
            | refine TR.p hP (by first | exact cd) (by repeat' first | exact trivial | (intro _; assumption) | apply And.intro) ?_
            | refine TR.gp hP rfl (fun _ => by first | exact cd) (fun _ => by repeat' first | exact trivial | (intro _; assumption) | apply And.intro) ?_
            | refine TR.pv hP rfl (by first | exact cd) trivial (by repeat' first | exact trivial | (intro _; assumption) | apply And.intro) ?_
           try simp only [hg, ew, vcb, ↓evSo_some, ↓reduceIte, reduceCtorEq, seval])
        | refine And.intro (fun h => ?_) (fun h => ?_)
        | refine And.intro (by first | omega | (simp only [maxLen, decide_eq_true_eq, decide_eq_false_iff_not] at *; omega)) ?_
        | (refine TR.aslO rfl rfl rfl rfl trivial (Nat.le_of_ble_eq_true rfl) ?_
           try simp only [hg, ew, vcb, ↓evSo_some, ↓reduceIte, reduceCtorEq, seval])
        | refine And.intro trivial ?_
        | refine And.intro rfl ?_
        | fail
    refine lopK.on (acc ++ [IntKind.i64.wrap ((downR m (l.take (acc.length + 1)).sum l.sum).1 - d)], (downR m (l.take (acc.length + 1)).sum l.sum).1) ⟨by simp; omega, ?_⟩ (by simp; omega) ((Wk.sw 70 1000 _ hfn (by simp) (by simp)).trans (Wk.of _ hfn rfl (by simp only [List.length_append, List.length_singleton, enb, vcb, ↓evSo_some, ↓reduceIte, reduceCtorEq, seval]; exact wS (by omega)) (by simp only [enb, vcb, ↓evSo_some, ↓reduceIte, reduceCtorEq, seval]; exact OLe.app1 (fun n : Int => [.int .i64 n]) (fun i hi => by simp [hi]) (by simp [litRow]))))
    rw [he]; simp
  · have hkl : acc.length = l.length := by have := of_decide_eq_false h1; omega
    rw [hkl, List.drop_length, psums, deal2, List.append_nil] at he
    repeat' first
        | refine And.intro (fun h => ?_) (fun h => ?_)
        | refine And.intro (by first | omega | (simp only [maxLen, decide_eq_true_eq, decide_eq_false_iff_not] at *; omega)) ?_
        | (refine TR.aslO rfl rfl rfl rfl trivial (Nat.le_of_ble_eq_true rfl) ?_
           try simp only [vcb, ↓evSo_some, ↓reduceIte, reduceCtorEq, seval])
        | refine And.intro trivial ?_
        | refine And.intro rfl ?_
        | fail
    refine RetK.mk _ (Wk.pub 1000 rfl) (by simp only [rs38, rsb, vcb, ↓evSo_some, ↓reduceIte, reduceCtorEq, seval]) ?_ trivial
    simp only [rs38, rsb, vcb, ↓evSo_some, ↓reduceIte, reduceCtorEq, seval]
    rw [e, he]; exact VLe.tups ⟨VLe.sl rfl (fun _ => rfl) (by simp) (fun i hi => rfl), VLe.refl _, trivial⟩
end Go.Proofs.Ytkifajabiggfmaa
end
