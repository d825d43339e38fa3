import Derived.Test.YtgeidjhobbndjaaC
namespace Go.Proofs.Ytgeidjhobbndjaa
open Go.Bx

/-! The plain laws of splitting. -/
theorem down_q {m s S : Int} (hm : 0 ≤ m) (hs : 0 ≤ s) (hS : 0 < S) (hsS : s ≤ S) (h4 : m ≤ 4000000000000000000) : downR m s S = (m * s / S, 0) := by
  obtain ⟨M, rfl⟩ : ∃ A : Nat, m = (A : Int) := ⟨m.toNat, by omega⟩
  obtain ⟨T, rfl⟩ : ∃ A : Nat, s = (A : Int) := ⟨s.toNat, by omega⟩
  obtain ⟨K, rfl⟩ : ∃ A : Nat, S = (A : Int) := ⟨S.toNat, by omega⟩
  have hle : M * T / K ≤ M := by
    have h1 : M * T ≤ M * K := Nat.mul_le_mul_left M (by omega)
    have h2 := Nat.div_le_div_right (c := K) h1
    rwa [Nat.mul_div_cancel M (by omega)] at h2
  rw [downR, ofR_nat M T K (by omega), if_neg (by omega)]
  simp only [upD, Bool.false_eq_true, if_false, Nat.add_zero]
  rw [if_neg (by omega)]
  simp
def dealQ (m S : Int) : Int → List Int → List Int
  | _, [] => []
  | n, p :: r => (m * (n + p) / S - m * n / S) :: dealQ m S (n + p) r
theorem quo_le {m s t S : Int} (hm : 0 ≤ m) (hS : 0 < S) (h : s ≤ t) : m * s / S ≤ m * t / S :=
  Int.ediv_le_ediv hS (Int.mul_le_mul_of_nonneg_left h hm)
theorem quo_nn {m s S : Int} (hm : 0 ≤ m) (hS : 0 < S) (h : 0 ≤ s) : 0 ≤ m * s / S :=
  Int.ediv_nonneg (Int.mul_nonneg hm h) (by omega)
theorem quo_top {m s S : Int} (hm : 0 ≤ m) (hS : 0 < S) (h : s ≤ S) : m * s / S ≤ m := by
  have := quo_le hm hS h
  rwa [Int.mul_ediv_cancel m (by omega)] at this
theorem deal2_eq {m S : Int} (hm : 0 ≤ m) (hS : 0 < S) (h4 : m ≤ 4000000000000000000) : ∀ (l : List Int) (n : Int), 0 ≤ n → (∀ x, x ∈ l → 0 ≤ x) → n + l.sum ≤ S →
    deal2 m S (m * n / S) (psums n l) = dealQ m S n l
  | [], _, _, _, _ => rfl
  | p :: r, n, hn, hx, hs => by
    have hp := hx p (by simp)
    have hr := sum_nonneg (l := r) (fun x h => hx x (by simp [h]))
    rw [List.sum_cons] at hs
    have h1 := quo_nn hm hS hn
    have h2 := quo_le hm hS (show n ≤ n + p by omega)
    have h3 := quo_top hm hS (show n + p ≤ S by omega)
    rw [psums, deal2, dealQ, down_q hm (by omega) hS (by omega) h4, deal2_eq hm hS h4 r (n + p) (by omega) (fun x h => hx x (by simp [h])) (by omega)]
    simp only
    rw [wI (by omega)]
structure SOk (m : Int) (l : List Int) : Prop where
  m0 : 0 ≤ m
  m4 : m ≤ 4000000000000000000
  n2 : l.length ≤ 2000
  nn : ∀ x, x ∈ l → 0 ≤ x
  S0 : 0 < l.sum
  S4 : l.sum ≤ 4000000000000000000
theorem split_ok {m : Int} {l : List Int} (h : SOk m l) : splitR m l = (dealQ m l.sum 0 l, 0) := by
  have := h.m0; have := h.m4; have := h.n2; have := h.S0; have := h.S4
  have e := deal2_eq h.m0 h.S0 h.m4 l 0 (by omega) h.nn (by omega)
  rw [Int.mul_zero, Int.zero_ediv] at e
  rw [splitR, if_neg (by omega), if_neg (any_nonneg h.nn), if_neg (by omega), if_neg (by omega), e]
theorem split_inv {m : Int} {l : List Int} (h : (splitR m l).2 = 0) : SOk m l := by
  unfold splitR at h
  split at h
  · cases h
  split at h
  · cases h
  rename_i h1 h2
  have hnn : ∀ x, x ∈ l → 0 ≤ x := by
    intro x hx
    by_cases h3 : x < 0
    · exact absurd (any_neg hx h3) h2
    · omega
  have := sum_nonneg hnn
  split at h
  · cases h
  split at h
  · cases h
  exact ⟨by omega, by omega, by omega, hnn, by omega, by omega⟩
theorem split_bad {m : Int} {l : List Int} (h : (splitR m l).2 ≠ 0) : (splitR m l).1 = [] := by
  unfold splitR at h ⊢
  split
  · rfl
  split
  · rfl
  split
  · rfl
  split
  · rfl
  · rename_i h1 h2 h3 h4; simp [h1, h2, h3, h4] at h
theorem dealQ_len (m S : Int) : ∀ (l : List Int) (n : Int), (dealQ m S n l).length = l.length
  | [], _ => rfl
  | p :: r, n => by simp [dealQ, dealQ_len m S r]
theorem dealQ_drop (m S : Int) : ∀ (k : Nat) (l : List Int) (n : Int), (dealQ m S n l).drop k = dealQ m S (n + (l.take k).sum) (l.drop k)
  | 0, l, n => by simp
  | k + 1, [], n => by simp [dealQ]
  | k + 1, p :: r, n => by simp [dealQ, dealQ_drop m S k r, Int.add_assoc]
theorem dealQ_take (m S : Int) : ∀ (k : Nat) (l : List Int) (n : Int), ((dealQ m S n l).take k).sum = m * (n + (l.take k).sum) / S - m * n / S
  | 0, l, n => by simp
  | k + 1, [], n => by simp [dealQ]
  | k + 1, p :: r, n => by simp [dealQ, dealQ_take m S k r, Int.add_assoc]; omega
theorem take_sum {l : List Int} {k : Nat} (h : k < l.length) : (l.take (k + 1)).sum = (l.take k).sum + l.getD k 0 := by
  obtain ⟨x, hd, hg, -, hat⟩ := drop_at h
  rw [List.take_add_one, hat, hg]; simp
theorem take_nn {l : List Int} (h : ∀ x, x ∈ l → 0 ≤ x) (k : Nat) : 0 ≤ (l.take k).sum ∧ (l.take k).sum ≤ l.sum := by
  have h1 := sum_nonneg (l := l.take k) (fun x hx => h x (List.mem_of_mem_take hx))
  have h2 := sum_nonneg (l := l.drop k) (fun x hx => h x (List.mem_of_mem_drop hx))
  have h3 : l.sum = (l.take k).sum + (l.drop k).sum := by rw [← List.sum_append, List.take_append_drop]
  omega
theorem dealQ_at {m S : Int} {l : List Int} {k : Nat} (h : k < l.length) : (dealQ m S 0 l).getD k 0 = m * (l.take (k + 1)).sum / S - m * (l.take k).sum / S := by
  have h1 := take_sum (l := dealQ m S 0 l) (k := k) (by rw [dealQ_len]; exact h)
  rw [dealQ_take, dealQ_take] at h1
  simp only [Int.zero_add] at h1
  omega
theorem quo_add {a b S : Int} (hS : 0 < S) : a / S + b / S ≤ (a + b) / S ∧ (a + b) / S ≤ a / S + b / S + 1 := by
  have h1 := Int.ediv_mul_le a (show S ≠ 0 by omega)
  have h2 := Int.ediv_mul_le b (show S ≠ 0 by omega)
  have h3 := Int.lt_ediv_add_one_mul_self a hS
  have h4 := Int.lt_ediv_add_one_mul_self b hS
  generalize a / S = x at *
  generalize b / S = y at *
  rw [Int.add_mul] at h3 h4
  constructor
  · apply Int.le_ediv_of_mul_le hS
    rw [Int.add_mul]; omega
  · have : (a + b) / S < x + y + 1 + 1 := by
      apply Int.ediv_lt_of_lt_mul hS
      rw [Int.add_mul, Int.add_mul, Int.add_mul]; omega
    omega
theorem dealQ_scale {m S k : Int} (hk : 0 < k) : ∀ (l : List Int) (n : Int), dealQ m (k * S) (k * n) (l.map (k * ·)) = dealQ m S n l
  | [], _ => rfl
  | p :: r, n => by
    rw [List.map_cons, dealQ, dealQ, ← Int.mul_add, dealQ_scale hk r]
    have e : ∀ x : Int, m * (k * x) / (k * S) = m * x / S := fun x => by
      rw [Int.mul_left_comm]; exact Int.mul_ediv_mul_of_pos _ _ hk
    rw [e, e]
theorem sum_scale (k : Int) : ∀ l : List Int, (l.map (k * ·)).sum = k * l.sum
  | [] => by simp
  | p :: r => by simp [sum_scale k r, Int.mul_add]
theorem down_mk {a b k : Int} (ha : 0 ≤ a) (hb : 0 ≤ b) (hk : 0 < k) (h4 : a * b / k ≤ 4000000000000000000) : downR a b k = (a * b / k, 0) := by
  obtain ⟨A, rfl⟩ : ∃ A : Nat, a = (A : Int) := ⟨a.toNat, by omega⟩
  obtain ⟨B, rfl⟩ : ∃ A : Nat, b = (A : Int) := ⟨b.toNat, by omega⟩
  obtain ⟨K, rfl⟩ : ∃ A : Nat, k = (A : Int) := ⟨k.toNat, by omega⟩
  have e : (A : Int) * (B : Int) / (K : Int) = ((A * B / K : Nat) : Int) := by simp
  rw [e] at h4 ⊢
  have h4' : A * B / K ≤ 4000000000000000000 := by omega
  rw [downR, ofR_nat A B K (by omega), if_neg (by omega)]
  simp only [upD, Bool.false_eq_true, if_false, Nat.add_zero]
  rw [if_neg (by omega)]
theorem down_inv {a b k : Int} (h : (downR a b k).2 = 0) : 0 ≤ a ∧ 0 ≤ b ∧ 0 < k ∧ a * b / k ≤ 4000000000000000000 := by
  by_cases hz : chk a b k = 0
  · have hq := chk_ok hz
    refine ⟨hq.1, hq.2.1, hq.2.2, ?_⟩
    obtain ⟨A, rfl⟩ : ∃ A : Nat, a = (A : Int) := ⟨a.toNat, by omega⟩
    obtain ⟨B, rfl⟩ : ∃ A : Nat, b = (A : Int) := ⟨b.toNat, by omega⟩
    obtain ⟨K, rfl⟩ : ∃ A : Nat, k = (A : Int) := ⟨k.toNat, by omega⟩
    rw [downR, ofR_nat A B K (by omega)] at h
    have h4' : A * B / K ≤ 4000000000000000000 := by
      by_cases h5 : 4000000000000000000 < A * B / K
      · rw [if_pos h5] at h; cases h
      · omega
    have e : (A : Int) * (B : Int) / (K : Int) = ((A * B / K : Nat) : Int) := by simp
    rw [e]; omega
  · rw [downR, of_chk hz] at h; exact absurd h hz
theorem down_comm (a b k : Int) : downR b a k = downR a b k := by
  unfold downR ofR
  rw [Nat.mul_comm]
  by_cases h : a < 0 ∨ b < 0 ∨ k < 0
  · rw [if_pos h, if_pos (by omega)]
  · rw [if_neg h, if_neg (by omega)]
theorem down_more {a b k y : Int} (h1 : (downR a b k).2 = 0) (h2 : (downR a (max b y) k).2 = 0) : (downR a b k).1 ≤ (downR a (max b y) k).1 := by
  have i1 := down_inv h1
  have i2 := down_inv h2
  rw [down_mk i1.1 i1.2.1 i1.2.2.1 i1.2.2.2, down_mk i2.1 i2.2.1 i2.2.2.1 i2.2.2.2]
  exact quo_le i1.1 i1.2.2.1 (by omega)
theorem down_less {a b k z : Int} (h1 : (downR a b k).2 = 0) : (downR a b (max k z)).2 = 0 ∧ (downR a b (max k z)).1 ≤ (downR a b k).1 := by
  have i1 := down_inv h1
  have hk : 0 < max k z := by omega
  have hle : a * b / max k z ≤ a * b / k := by
    have h0 := Int.mul_nonneg i1.1 i1.2.1
    have h3 := Int.ediv_mul_le (a * b) (show max k z ≠ 0 by omega)
    apply Int.le_ediv_of_mul_le i1.2.2.1
    have h4 : 0 ≤ a * b / max k z := Int.ediv_nonneg h0 (by omega)
    have h5 := Int.mul_le_mul_of_nonneg_left (show k ≤ max k z by omega) h4
    omega
  rw [down_mk i1.1 i1.2.1 i1.2.2.1 i1.2.2.2, down_mk i1.1 i1.2.1 hk (by omega)]
  exact ⟨rfl, hle⟩
end Go.Proofs.Ytgeidjhobbndjaa
