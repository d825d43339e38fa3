import Derived.Test.YtkcfgdafhfllgaaN
/-! Parts of 10000, to the nearest one: plain laws, for every seat. -/
namespace Go.Proofs.Ytkcfgdafhfllgaa
open Go.Bx

/-! An amount by parts of 10000, to the nearest one. -/
def heN (x b : Nat) : Nat := x * b / 10000 + (if upE (x * b / 10000) (x * b % 10000) 10000 = true then 1 else 0)
theorem he_spec (x b : Nat) : 10000 * heN x b ≤ x * b + 5000 ∧ x * b ≤ 10000 * heN x b + 5000 ∧ ((10000 * heN x b = x * b + 5000 ∨ x * b = 10000 * heN x b + 5000) → heN x b % 2 = 0) := by
  unfold heN upE
  generalize x * b = y
  split
  · rename_i h
    simp only [Bool.or_eq_true, Bool.and_eq_true, decide_eq_true_eq] at h
    omega
  · rename_i h
    simp only [Bool.or_eq_true, Bool.and_eq_true, decide_eq_true_eq, not_or, not_and] at h
    omega
theorem he_mono {x y b : Nat} (h : x ≤ y) : heN x b ≤ heN y b := by
  have h1 := he_spec x b
  have h2 := he_spec y b
  have h3 : x * b ≤ y * b := Nat.mul_le_mul_right _ h
  generalize x * b = a at *
  generalize y * b = c at *
  omega
theorem he_lip {x m b : Nat} (hb : b ≤ 10000) : heN (x + m) b ≤ heN x b + m := by
  have h1 := he_spec x b
  have h2 := he_spec (x + m) b
  have h3 : m * b ≤ m * 10000 := Nat.mul_le_mul_left _ hb
  rw [Nat.add_mul] at h2
  by_cases hm : m = 0
  · subst hm; simp
  by_cases h4 : b = 10000
  · subst h4; omega
  · have h5 : m * b ≤ m * 9999 := Nat.mul_le_mul_left _ (by omega)
    generalize x * b = a at *
    generalize m * b = c at *
    omega
theorem he_le {x b : Nat} (hb : b ≤ 10000) : heN x b ≤ x := by
  have h := he_lip (x := 0) (m := x) hb
  have h0 : heN 0 b = 0 := by have := he_spec 0 b; omega
  rw [Nat.zero_add, h0, Nat.zero_add] at h
  exact h
theorem he_full (x : Nat) : heN x 10000 = x := by
  have := he_spec x 10000
  omega
theorem bp_he {x b : Nat} (hx : x ≤ 1000000000000000) (hb : b ≤ 10000) : bpR (x : Int) (b : Int) = (((heN x b : Nat) : Int), 0) := by
  have h1 : x * b ≤ 1000000000000000 * 10000 := Nat.mul_le_mul hx hb
  have h2 := he_le (x := x) hb
  have e : ((10000 : Int)).toNat = 10000 := rfl
  unfold bpR ofR
  rw [if_neg (by omega), if_neg (by omega), e]
  simp only [Int.toNat_natCast]
  rw [if_neg (by omega), if_neg]
  · rfl
  · have := h2; unfold heN at this; omega

end Go.Proofs.Ytkcfgdafhfllgaa
