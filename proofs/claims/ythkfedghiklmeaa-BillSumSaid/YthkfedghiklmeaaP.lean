import Derived.Test.YthkfedghiklmeaaF
namespace Go.Proofs.Ythkfedghiklmeaa
open Go.Bx
set_option maxRecDepth 10000

/-! Months on, in order. -/
def startM (t : Nat) : Nat := ahN (1601 + t / 12) + msum (1601 + t / 12) (t % 12)
theorem startM_succ (t : Nat) : startM (t + 1) = ahN (1601 + t / 12) + msum (1601 + t / 12) (t % 12 + 1) := by
  unfold startM
  by_cases h : t % 12 = 11
  · have e1 : (t + 1) / 12 = t / 12 + 1 := by omega
    have e2 : (t + 1) % 12 = 0 := by omega
    rw [e1, e2, h, show 1601 + (t / 12 + 1) = 1601 + t / 12 + 1 by omega, ah_succ (by omega), msum12]; rfl
  · have e1 : (t + 1) / 12 = t / 12 := by omega
    have e2 : (t + 1) % 12 = t % 12 + 1 := by omega
    rw [e1, e2]
theorem startM_mono {a b : Nat} (h : a ≤ b) : startM a ≤ startM b := by
  induction b with
  | zero => have : a = 0 := by omega
            subst this; exact Nat.le_refl _
  | succ b ih =>
    by_cases e : a = b + 1
    · subst e; exact Nat.le_refl _
    · have h1 := ih (by omega)
      have h2 := msum_le (1601 + b / 12) (show b % 12 ≤ b % 12 + 1 by omega)
      rw [startM_succ]; unfold startM at h1 ⊢; omega
theorem shiftV_mono {n a b : Nat} (h1 : 1 ≤ n) (h2 : n ≤ 292194) (h : a ≤ b) : shiftV n a ≤ shiftV n b := by
  have hs := ofN_spec h1 h2
  by_cases e : a = b
  · subst e; exact Nat.le_refl _
  · have ha : shiftT n a + 1 ≤ shiftT n b := by unfold shiftT; omega
    have hm := startM_mono ha
    rw [startM_succ] at hm
    have hl := mlen_le (1601 + shiftT n b / 12) (shiftT n b % 12 + 1)
    have hms : msum (1601 + shiftT n a / 12) (shiftT n a % 12 + 1) = msum (1601 + shiftT n a / 12) (shiftT n a % 12) + mlen (1601 + shiftT n a / 12) (shiftT n a % 12 + 1) := rfl
    unfold shiftV numN
    unfold startM at hm
    simp only [Nat.add_sub_cancel]
    omega
theorem shiftV_zero {n : Nat} (h1 : 1 ≤ n) (h2 : n ≤ 292194) : shiftV n 0 = n := by
  obtain ⟨a, b, c, d, e, f, g⟩ := ofN_spec h1 h2
  have e1 : 1601 + shiftT n 0 / 12 = (ofN n).1 := by unfold shiftT; omega
  have e2 : shiftT n 0 % 12 + 1 = (ofN n).2.1 := by unfold shiftT; omega
  unfold shiftV
  rw [e1, e2, Nat.min_eq_left f]; exact g
theorem shiftV_bounds {n b : Nat} (h1 : 1 ≤ n) (h2 : n ≤ 292194) (h3 : shiftT n b < 9600) : 1 ≤ shiftV n b ∧ shiftV n b ≤ 292194 := by
  have h := shift_dy h1 h2 h3
  have := numN_bounds h.y1 h.y2 h.m1 h.m2 h.d1 h.d2
  unfold shiftV
  omega
theorem shiftN_ok {f : Int} {b : Nat} (h : (shiftN f b).2 = 0) : 1 ≤ f ∧ f ≤ 292194 ∧ shiftT f.toNat b < 9600 ∧ (shiftN f b).1 = (shiftV f.toNat b : Nat) := by
  unfold shiftN at h ⊢
  by_cases h1 : f < 1 ∨ 292194 < f
  · rw [if_pos h1] at h; cases h
  · rw [if_neg h1] at h ⊢
    by_cases h2 : 9600 ≤ shiftT f.toNat b
    · rw [if_pos h2] at h; cases h
    · rw [if_neg h2]; exact ⟨by omega, by omega, by omega, rfl⟩

/-! Equal parts sum up, and differ by one at most. -/
theorem parts_sum {a n : Nat} (hn : 0 < n) : ∀ k, k ≤ n → ((List.range k).map fun i => ((partN a n i : Nat) : Int)).sum = ((a * k / n : Nat) : Int)
  | 0, _ => by simp
  | k + 1, h => by
    have h1 : a * k / n ≤ a * (k + 1) / n := Nat.div_le_div_right (Nat.mul_le_mul_left _ (by omega))
    rw [List.range_succ, List.map_append, List.sum_append, parts_sum hn k (by omega)]
    simp only [List.map_cons, List.map_nil, List.sum_cons, List.sum_nil, partN]
    generalize a * k / n = x at *
    generalize a * (k + 1) / n = y at *
    omega
theorem part_near {a n i : Nat} (hn : 0 < n) : a / n ≤ partN a n i ∧ partN a n i ≤ a / n + 1 := by
  rw [← part_ref a n i hn]
  have hr : a % n < n := Nat.mod_lt _ hn
  have h1 : a % n * i / n ≤ a % n * (i + 1) / n := Nat.div_le_div_right (Nat.mul_le_mul_left _ (by omega))
  have h2 : a % n * (i + 1) / n ≤ a % n * i / n + 1 := by
    have e : a % n * (i + 1) ≤ a % n * i + n := by rw [Nat.mul_add, Nat.mul_one]; omega
    calc a % n * (i + 1) / n ≤ (a % n * i + n) / n := Nat.div_le_div_right e
      _ = a % n * i / n + 1 := Nat.add_div_right _ hn
  generalize a % n * (i + 1) / n = x at *
  generalize a % n * i / n = y at *
  generalize a / n = q at *
  omega

/-! A plan. -/
structure Planned (a : Nat) (f : Int) (n : Nat) : Prop where
  n1 : 1 ≤ n
  n12 : n ≤ 12
  a4 : a ≤ 4000000000000000000
  ok : ∀ i, i < n → (shiftN f (i * 12 / n)).2 = 0
theorem planR_ok {amt f t n : Int} (h : (planR amt f t n).2 = 0) : Planned amt.toNat f n.toNat ∧ (planR amt f t n).1 = planL amt.toNat f n.toNat ∧ 0 ≤ amt ∧ 0 ≤ n ∧ amt ≤ 4000000000000000000 ∧ mayP amt f t n = true := by
  unfold planR at h ⊢
  by_cases h1 : mayP amt f t n = false
  · rw [if_pos h1] at h; cases h
  rw [if_neg h1] at h ⊢
  by_cases h2 : fitsP f n.toNat = false
  · rw [if_pos h2] at h; cases h
  rw [if_neg h2]
  have hm := mayP_iff.1 (show mayP amt f t n = true by simpa using h1)
  refine ⟨⟨by omega, by omega, by omega, fun i hi => ?_⟩, rfl, by omega, by omega, by omega, by simpa using h1⟩
  have h3 : fitsP f n.toNat = true := by simpa using h2
  have := List.all_eq_true.1 h3 i (List.mem_range.2 hi)
  simpa using this
theorem planR_bad {amt f t n : Int} (h : ¬ (planR amt f t n).2 = 0) : (planR amt f t n).1 = [] := by
  unfold planR at h ⊢
  by_cases h1 : mayP amt f t n = false
  · rw [if_pos h1]
  rw [if_neg h1] at h ⊢
  by_cases h2 : fitsP f n.toNat = false
  · rw [if_pos h2]
  · rw [if_neg h2] at h; exact absurd rfl h
theorem planL_len (a : Nat) (f : Int) (n : Nat) : (planL a f n).length = n := by simp [planL]
theorem planL_at {a : Nat} {f : Int} {n i : Nat} (h : i < n) (d : Bl) : (planL a f n).getD i d = planB a f n i := by simp [planL, List.getD_eq_getElem?_getD, h]
theorem Planned.dues {a : Nat} {f : Int} {n : Nat} (h : Planned a f n) : 1 ≤ f ∧ f ≤ 292194 ∧ ∀ i, i < n → (planB a f n i).du = (shiftV f.toNat (i * 12 / n) : Nat) ∧ 1 ≤ (planB a f n i).du ∧ (planB a f n i).du ≤ 292194 ∧ f ≤ (planB a f n i).du := by
  have h0 := shiftN_ok (h.ok 0 h.n1)
  refine ⟨h0.1, h0.2.1, fun i hi => ?_⟩
  have h1 := shiftN_ok (h.ok i hi)
  have hb := shiftV_bounds (n := f.toNat) (b := i * 12 / n) (by omega) (by omega) h1.2.2.1
  have hz := shiftV_zero (n := f.toNat) (by omega) (by omega)
  have hm := shiftV_mono (n := f.toNat) (a := 0) (b := i * 12 / n) (by omega) (by omega) (Nat.zero_le _)
  simp only [planB, h1.2.2.2, true_and]
  omega
theorem Planned.right {a : Nat} {f : Int} {n : Nat} (h : Planned a f n) : Rt (planL a f n) ∧ sumA (planL a f n) = a ∧ sumP (planL a f n) = 0 := by
  have hd := h.dues
  have hs : sumA (planL a f n) = a := by
    have := parts_sum (a := a) (n := n) h.n1 n (Nat.le_refl _)
    rw [Nat.mul_div_cancel _ h.n1] at this
    rw [← this, sumA, planL, List.map_map]; rfl
  have hp : sumP (planL a f n) = 0 := by
    rw [sumP, planL, List.map_map]
    have : ∀ k, ((List.range k).map ((fun x : Bl => x.pa) ∘ planB a f n)).sum = 0 := by
      intro k
      induction k with
      | zero => rfl
      | succ k ih => rw [List.range_succ, List.map_append, List.sum_append, ih]; rfl
    exact this n
  refine ⟨⟨by rw [planL_len]; have := h.n12; omega, fun b hb => ?_, by rw [hs]; have := h.a4; omega, ?_⟩, hs, hp⟩
  · obtain ⟨i, hi, rfl⟩ := List.mem_map.1 hb
    have hi := List.mem_range.1 hi
    have := hd.2.2 i hi
    refine ⟨by omega, by omega, by simp [planB], by simp only [planB]; omega⟩
  · rw [planL, List.pairwise_map]
    refine List.Pairwise.imp_of_mem (R := fun i j => i < j) ?_ List.pairwise_lt_range
    intro i j hi hj hij
    have hi := List.mem_range.1 hi
    have hj := List.mem_range.1 hj
    rw [(hd.2.2 i hi).1, (hd.2.2 j hj).1]
    have := shiftV_mono (n := f.toNat) (a := i * 12 / n) (b := j * 12 / n) (by omega) (by omega) (Nat.div_le_div_right (Nat.mul_le_mul_right _ (by omega)))
    omega

/-! Paid. -/
structure Paid (a : Int) (l m : List Bl) (left : Int) : Prop where
  len : m.length = l.length
  same : ∀ i, i < l.length → (m.getD i default).du = (l.getD i default).du ∧ (m.getD i default).am = (l.getD i default).am ∧ (l.getD i default).pa ≤ (m.getD i default).pa ∧ (m.getD i default).pa ≤ (m.getD i default).am
  left0 : 0 ≤ left
  lefta : left ≤ a
  sumA : sumA m = sumA l
  sumP : sumP m = sumP l + (a - left)
  all : left = 0 ∨ Go.Proofs.Ythkfedghiklmeaa.sumP m = Go.Proofs.Ythkfedghiklmeaa.sumA m
  old : ∀ i j, i < j → j < l.length → (m.getD i default).pa < (m.getD i default).am → (m.getD j default).pa = (l.getD j default).pa
theorem payL_zero : ∀ {l : List Bl}, (∀ b, b ∈ l → 0 ≤ b.pa ∧ b.pa ≤ b.am) → payL 0 l = (l, 0)
  | [], _ => rfl
  | b :: r, h => by
    have hb := h b (by simp)
    have e : min 0 (b.am - b.pa) = 0 := by omega
    rw [payL, e, Int.sub_zero, payL_zero (l := r) (fun x hx => h x (by simp [hx])), payB, e, Int.add_zero]
theorem payL_paid : ∀ {l : List Bl} {a : Int}, (∀ b, b ∈ l → 0 ≤ b.pa ∧ b.pa ≤ b.am) → 0 ≤ a → Paid a l (payL a l).1 (payL a l).2
  | [], a, _, h => ⟨rfl, fun i hi => absurd hi (Nat.not_lt_zero i), h, Int.le_refl _, rfl, by simp [payL], .inr rfl, fun i j _ hj => absurd hj (Nat.not_lt_zero j)⟩
  | b :: r, a, h, ha => by
    have hb := h b (by simp)
    have hr : ∀ x, x ∈ r → 0 ≤ x.pa ∧ x.pa ≤ x.am := fun x hx => h x (by simp [hx])
    have ih := payL_paid (l := r) (a := a - min a (b.am - b.pa)) hr (by omega)
    rw [payL]
    simp only
    obtain ⟨i1, i2, i3, i4, i5, i6, i7, i8⟩ := ih
    refine ⟨by simp [i1], fun i hi => ?_, i3, by omega, ?_, ?_, ?_, fun i j hij hj hsh => ?_⟩
    · cases i with
      | zero => simp only [List.getD_cons_zero, payB, true_and]; omega
      | succ i => simp only [List.getD_cons_succ]; exact i2 i (by simpa using hi)
    · simp only [Go.Proofs.Ythkfedghiklmeaa.sumA, List.map_cons, List.sum_cons, payB] at i5 ⊢; omega
    · simp only [Go.Proofs.Ythkfedghiklmeaa.sumP, List.map_cons, List.sum_cons, payB] at i6 ⊢; omega
    · by_cases hm : a ≤ b.am - b.pa
      · left; omega
      · rcases i7 with i7 | i7
        · exact .inl i7
        · right
          simp only [Go.Proofs.Ythkfedghiklmeaa.sumA, Go.Proofs.Ythkfedghiklmeaa.sumP, List.map_cons, List.sum_cons, payB] at i7 ⊢; omega
    · cases j with
      | zero => omega
      | succ j =>
        cases i with
        | zero =>
          simp only [List.getD_cons_zero, List.getD_cons_succ, payB] at hsh ⊢
          have e : a - min a (b.am - b.pa) = 0 := by omega
          rw [e, payL_zero hr]
        | succ i =>
          simp only [List.getD_cons_succ] at hsh ⊢
          exact i8 i j (by omega) (by simpa using hj) hsh
theorem payL_twice : ∀ {l : List Bl} {a b : Int}, (∀ x, x ∈ l → 0 ≤ x.pa ∧ x.pa ≤ x.am) → 0 ≤ a → 0 ≤ b → (payL b (payL a l).1).1 = (payL (a + b) l).1 ∧ (payL a l).2 + (payL b (payL a l).1).2 = (payL (a + b) l).2
  | [], a, b, _, _, _ => ⟨rfl, rfl⟩
  | x :: r, a, b, h, ha, hb => by
    have hx := h x (by simp)
    have hr : ∀ y, y ∈ r → 0 ≤ y.pa ∧ y.pa ≤ y.am := fun y hy => h y (by simp [hy])
    have ih := payL_twice (l := r) (a := a - min a (x.am - x.pa)) (b := b - min b ((payB x a).am - (payB x a).pa)) hr (by omega) (by omega)
    have e1 : a - min a (x.am - x.pa) + (b - min b ((payB x a).am - (payB x a).pa)) = a + b - min (a + b) (x.am - x.pa) := by simp only [payB]; omega
    have e2 : payB (payB x a) b = payB x (a + b) := by simp only [payB, Bl.mk.injEq, true_and]; omega
    rw [e1] at ih
    rw [payL, payL, payL]
    simp only
    rw [e2, ih.1]
    exact ⟨rfl, ih.2⟩
theorem payL_app : ∀ (x y : List Bl) (a : Int), payL a (x ++ y) = ((payL a x).1 ++ (payL (payL a x).2 y).1, (payL (payL a x).2 y).2)
  | [], y, a => rfl
  | b :: r, y, a => by rw [List.cons_append, payL, payL_app r y]; rfl
theorem payL_full : ∀ {l : List Bl}, (∀ x, x ∈ l → 0 ≤ x.pa ∧ x.pa ≤ x.am) → (payL (sumA l - sumP l) l).2 = 0 ∧ ∀ x, x ∈ (payL (sumA l - sumP l) l).1 → x.pa = x.am
  | [], _ => ⟨by simp [payL, sumA, sumP], fun x hx => by simp [payL] at hx⟩
  | b :: r, h => by
    have hb := h b (by simp)
    have hr : ∀ y, y ∈ r → 0 ≤ y.pa ∧ y.pa ≤ y.am := fun y hy => h y (by simp [hy])
    have hn := sumA_nonneg hr
    have ih := payL_full hr
    have e1 : sumA (b :: r) - sumP (b :: r) = (b.am - b.pa) + (sumA r - sumP r) := by simp only [sumA, sumP, List.map_cons, List.sum_cons]; omega
    have e2 : min ((b.am - b.pa) + (sumA r - sumP r)) (b.am - b.pa) = b.am - b.pa := by omega
    rw [e1, payL, e2, show b.am - b.pa + (sumA r - sumP r) - (b.am - b.pa) = sumA r - sumP r by omega]
    refine ⟨ih.1, fun x hx => ?_⟩
    simp only [List.mem_cons] at hx
    rcases hx with hx | hx
    · rw [hx]; simp only [payB]; omega
    · exact ih.2 x hx
theorem openS_early {day : Int} : ∀ {l : List Bl}, (∀ b, b ∈ l → b.du ≤ day) → openS day l = sumA l - sumP l
  | [], _ => by simp [openS, sumA, sumP]
  | b :: r, h => by
    rw [openS, if_pos (h b (by simp)), openS_early (l := r) (fun x hx => h x (by simp [hx]))]
    simp only [sumA, sumP, List.map_cons, List.sum_cons]; omega
theorem openS_late {day : Int} : ∀ {l : List Bl}, (∀ b, b ∈ l → day < b.du) → openS day l = 0
  | [], _ => rfl
  | b :: r, h => by
    rw [openS, if_neg (by have := h b (by simp); omega), openS_late (l := r) (fun x hx => h x (by simp [hx]))]; rfl
theorem openS_mono {a b : Int} (h : a ≤ b) : ∀ {l : List Bl}, (∀ x, x ∈ l → 0 ≤ x.pa ∧ x.pa ≤ x.am) → openS a l ≤ openS b l
  | [], _ => Int.le_refl _
  | x :: r, hx => by
    have h1 := hx x (by simp)
    have ih := openS_mono h (l := r) (fun y hy => hx y (by simp [hy]))
    simp only [openS]
    split <;> split <;> omega
theorem openS_pay {day : Int} : ∀ {l : List Bl} {a : Int}, (∀ x, x ∈ l → 0 ≤ x.pa ∧ x.pa ≤ x.am) → 0 ≤ a → openS day (payL a l).1 ≤ openS day l ∧ openS day l - openS day (payL a l).1 ≤ a - (payL a l).2
  | [], a, _, h => by simp [payL]
  | b :: r, a, h, ha => by
    have hb := h b (by simp)
    have hr : ∀ y, y ∈ r → 0 ≤ y.pa ∧ y.pa ≤ y.am := fun y hy => h y (by simp [hy])
    have ih := openS_pay (day := day) (l := r) (a := a - min a (b.am - b.pa)) hr (by omega)
    have hp := payL_paid (l := r) (a := a - min a (b.am - b.pa)) hr (by omega)
    have h1 := hp.lefta
    rw [payL]
    simp only [openS, payB]
    split <;> omega
theorem Rt.nn {l : List Bl} (h : Rt l) : ∀ b, b ∈ l → 0 ≤ b.pa ∧ b.pa ≤ b.am := fun b hb => (h.each b hb).2.2
theorem getD_mem {l : List Bl} {i : Nat} (h : i < l.length) (d : Bl) : l.getD i d ∈ l := by
  rw [List.getD_eq_getElem?_getD, List.getElem?_eq_getElem h]; exact List.getElem_mem h
theorem mem_getD {l : List Bl} {b : Bl} (h : b ∈ l) : ∃ i, i < l.length ∧ ∀ d, l.getD i d = b := by
  obtain ⟨i, hi, e⟩ := List.getElem_of_mem h
  exact ⟨i, hi, fun d => by rw [List.getD_eq_getElem?_getD, List.getElem?_eq_getElem hi]; exact e⟩
theorem rt_of {l m : List Bl} (h : Rt l) (hlen : m.length = l.length) (hs : ∀ i, i < l.length → (m.getD i default).du = (l.getD i default).du ∧ 0 ≤ (m.getD i default).pa ∧ (m.getD i default).pa ≤ (m.getD i default).am) (hsum : sumA m ≤ 4000000000000000000) : Rt m := by
  refine ⟨by rw [hlen]; exact h.len, fun b hb => ?_, hsum, ?_⟩
  · obtain ⟨i, hi, e⟩ := mem_getD hb
    have h1 := hs i (by omega)
    have h2 := h.each _ (getD_mem (l := l) (i := i) (by omega) default)
    rw [e] at h1
    omega
  · rw [List.pairwise_iff_getElem]
    intro i j hi hj hij
    have h1 := (hs i (by omega)).1
    have h2 := (hs j (by omega)).1
    have h3 := List.pairwise_iff_getElem.1 h.ord i j (by omega) (by omega) hij
    simp only [List.getD_eq_getElem?_getD, List.getElem?_eq_getElem hi, List.getElem?_eq_getElem hj, List.getElem?_eq_getElem (show i < l.length by omega), List.getElem?_eq_getElem (show j < l.length by omega), Option.getD_some] at h1 h2
    omega
theorem pay_right {l : List Bl} {a : Int} (h : Rt l) (ha : 0 ≤ a) : Rt (payL a l).1 := by
  have hp := payL_paid h.nn ha
  refine rt_of h hp.len (fun i hi => ?_) (by rw [hp.sumA]; exact h.sum)
  have h1 := hp.same i hi
  have h2 := h.each _ (getD_mem (l := l) (i := i) hi default)
  omega
theorem pay_open {l : List Bl} (h : Rt l) (day : Int) : (payL (openS day l) l).2 = 0 ∧ openS day (payL (openS day l) l).1 = 0 ∧ ∀ i, i < l.length → day < (l.getD i default).du → (payL (openS day l) l).1.getD i default = l.getD i default := by
  obtain ⟨s1, s2, s3, s4, s5, s6⟩ := sorted_cut (day := day) h.ord
  have e0 : l.take (kD day l) ++ l.drop (kD day l) = l := List.take_append_drop _ _
  have hkl := kD_le day l
  have n1 : ∀ b, b ∈ l.take (kD day l) → 0 ≤ b.pa ∧ b.pa ≤ b.am := fun b hb => h.nn b (List.mem_of_mem_take hb)
  have n2 : ∀ b, b ∈ l.drop (kD day l) → 0 ≤ b.pa ∧ b.pa ≤ b.am := fun b hb => h.nn b (List.mem_of_mem_drop hb)
  have e1 : openS day l = sumA (l.take (kD day l)) - sumP (l.take (kD day l)) := by
    conv => lhs; rw [← e0]
    rw [openS_app, openS_early s6, openS_late s5]; omega
  have hf := payL_full n1
  have e2 : payL (openS day l) l = ((payL (openS day l) (l.take (kD day l))).1 ++ l.drop (kD day l), 0) := by
    conv => lhs; rw [← e0]
    rw [show openS day (l.take (kD day l) ++ l.drop (kD day l)) = openS day l by rw [e0], payL_app, e1, hf.1, payL_zero n2]
  have hlen : (payL (openS day l) (l.take (kD day l))).1.length = kD day l := by rw [payL_len]; simp; omega
  rw [e2]
  refine ⟨rfl, ?_, fun i hi hd => ?_⟩
  · simp only
    rw [openS_app, openS_late s5]
    have : openS day (payL (openS day l) (l.take (kD day l))).1 = 0 := by
      rw [e1]
      have : ∀ m : List Bl, (∀ x, x ∈ m → x.pa = x.am) → openS day m = 0 := by
        intro m
        induction m with
        | nil => intro _; rfl
        | cons b r ih => intro g; rw [openS, ih (fun x hx => g x (by simp [hx]))]; have := g b (by simp); split <;> omega
      exact this _ hf.2
    omega
  · simp only
    have hik : kD day l ≤ i := by
      rcases Nat.lt_or_ge i (kD day l) with g | g
      · have hm : l.getD i default ∈ l.take (kD day l) := by
          rw [List.getD_eq_getElem?_getD, List.getElem?_eq_getElem hi]
          have : (l.take (kD day l))[i]? = some l[i] := by rw [List.getElem?_take, if_pos g, List.getElem?_eq_getElem hi]
          exact List.mem_of_getElem? this
        have := s6 _ hm; omega
      · exact g
    rw [List.getD_eq_getElem?_getD, List.getElem?_append_right (by omega), hlen, List.getElem?_drop, show kD day l + (i - kD day l) = i by omega, List.getD_eq_getElem?_getD]

/-! Turned. -/
theorem updL_at (A n : Nat) : ∀ (l : List Bl) (i j : Nat), j < l.length → (updL A n i l).getD j default = { (l.getD j default) with am := (l.getD j default).pa + (partN A n (i + j) : Nat) }
  | [], _, j, h => absurd h (Nat.not_lt_zero j)
  | b :: r, i, 0, _ => by simp [updL]
  | b :: r, i, j + 1, h => by
    simp only [updL, List.getD_cons_succ]
    rw [updL_at A n r (i + 1) j (by simpa using h), show i + 1 + j = i + (j + 1) by omega]
theorem updL_sum (A n : Nat) : ∀ (l : List Bl) (i : Nat), sumA (updL A n i l) = sumP l + ((List.range l.length).map fun j => ((partN A n (i + j) : Nat) : Int)).sum ∧ sumP (updL A n i l) = sumP l
  | [], _ => by simp [updL, sumA, sumP]
  | b :: r, i => by
    obtain ⟨h1, h2⟩ := updL_sum A n r (i + 1)
    rw [List.length_cons, List.range_succ_eq_map, List.map_cons, List.map_map, List.sum_cons]
    have e : (List.range r.length).map ((fun j => ((partN A n (i + j) : Nat) : Int)) ∘ Nat.succ) = (List.range r.length).map fun j => ((partN A n (i + 1 + j) : Nat) : Int) := by
      apply List.map_congr_left; intro j _; simp only [Function.comp_apply]; rw [show i + j.succ = i + 1 + j by omega]
    rw [e]
    simp only [updL, sumA, sumP, List.map_cons, List.sum_cons, Nat.add_zero] at h1 h2 ⊢
    omega
structure Turned (l m : List Bl) (amt day : Int) : Prop where
  right : Rt m
  sumA : sumA m = amt
  sumP : sumP m = sumP l
  len : m.length = l.length
  same : ∀ i, i < l.length → (m.getD i default).du = (l.getD i default).du ∧ (m.getD i default).pa = (l.getD i default).pa ∧ ((l.getD i default).du ≤ day → m.getD i default = l.getD i default)
theorem turn_ok {l : List Bl} {amt day : Int} (h : (turnR l amt day).2 = 0) (hR : Rt l) : Turned l (turnR l amt day).1 amt day := by
  unfold turnR at h ⊢
  by_cases h1 : ¬ (rightB l = true ∧ 0 ≤ amt ∧ amt ≤ 4000000000000000000)
  · rw [if_pos h1] at h; cases h
  rw [if_neg h1] at h ⊢
  have h1 := Classical.not_not.1 h1
  have e0 : l.take (kD day l) ++ l.drop (kD day l) = l := List.take_append_drop _ _
  have ea := sumA_app (l.take (kD day l)) (l.drop (kD day l))
  rw [e0] at ea
  by_cases h2 : kD day l = l.length
  · rw [if_pos h2] at h ⊢
    by_cases h3 : amt - sumA (l.take (kD day l)) ≠ 0
    · rw [if_pos h3] at h; cases h
    rw [if_neg h3]
    have h3 := Classical.not_not.1 h3
    rw [h2, List.take_length] at h3
    exact ⟨hR, by simp only; omega, rfl, rfl, fun i hi => ⟨rfl, rfl, fun _ => rfl⟩⟩
  rw [if_neg h2] at h ⊢
  by_cases h3 : amt - sumA (l.take (kD day l)) < sumP (l.drop (kD day l))
  · rw [if_pos h3] at h; cases h
  rw [if_neg h3]
  simp only
  have hkl := kD_le day l
  obtain ⟨s1, s2, s3, s4, s5, s6⟩ := sorted_cut (day := day) hR.ord
  have hus := updL_sum (amt - sumA (l.take (kD day l)) - sumP (l.drop (kD day l))).toNat (l.length - kD day l) (l.drop (kD day l)) 0
  have hua := updL_at (amt - sumA (l.take (kD day l)) - sumP (l.drop (kD day l))).toNat (l.length - kD day l) (l.drop (kD day l)) 0
  have hps := parts_sum (a := (amt - sumA (l.take (kD day l)) - sumP (l.drop (kD day l))).toNat) (n := l.length - kD day l) (by omega) (l.length - kD day l) (Nat.le_refl _)
  rw [Nat.mul_div_cancel _ (by omega)] at hps
  have hdl : (l.drop (kD day l)).length = l.length - kD day l := List.length_drop
  simp only [hdl, Nat.zero_add] at hus hua
  rw [hps] at hus
  have hsumA := (sumA_app (l.take (kD day l)) (updL (amt - sumA (l.take (kD day l)) - sumP (l.drop (kD day l))).toNat (l.length - kD day l) 0 (l.drop (kD day l))))
  rw [hus.1, hus.2] at hsumA
  have hlen : (l.take (kD day l) ++ updL (amt - sumA (l.take (kD day l)) - sumP (l.drop (kD day l))).toNat (l.length - kD day l) 0 (l.drop (kD day l))).length = l.length := by
    rw [List.length_append, updL_len, ← List.length_append, e0]
  have htl : (l.take (kD day l)).length = kD day l := by simp; omega
  have hAe := Int.toNat_of_nonneg (show 0 ≤ amt - sumA (l.take (kD day l)) - sumP (l.drop (kD day l)) by omega)
  generalize (amt - sumA (l.take (kD day l)) - sumP (l.drop (kD day l))).toNat = A at *
  have hsame : ∀ i, i < l.length → ((l.take (kD day l) ++ updL A (l.length - kD day l) 0 (l.drop (kD day l))).getD i default).du = (l.getD i default).du ∧ ((l.take (kD day l) ++ updL A (l.length - kD day l) 0 (l.drop (kD day l))).getD i default).pa = (l.getD i default).pa ∧ ((l.getD i default).du ≤ day → (l.take (kD day l) ++ updL A (l.length - kD day l) 0 (l.drop (kD day l))).getD i default = l.getD i default) ∧ (l.getD i default).pa ≤ ((l.take (kD day l) ++ updL A (l.length - kD day l) 0 (l.drop (kD day l))).getD i default).am := by
    intro i hi
    have hb := hR.each _ (getD_mem (l := l) (i := i) hi default)
    rcases Nat.lt_or_ge i (kD day l) with g | g
    · have e : (l.take (kD day l) ++ updL A (l.length - kD day l) 0 (l.drop (kD day l))).getD i default = l.getD i default := by
        rw [List.getD_eq_getElem?_getD, List.getElem?_append_left (by omega), List.getElem?_take, if_pos g, List.getD_eq_getElem?_getD]
      rw [e]; exact ⟨rfl, rfl, fun _ => rfl, hb.2.2.2⟩
    · have e : (l.take (kD day l) ++ updL A (l.length - kD day l) 0 (l.drop (kD day l))).getD i default = { (l.getD i default) with am := (l.getD i default).pa + (partN A (l.length - kD day l) (i - kD day l) : Nat) } := by
        have h4 := hua (i - kD day l) (by omega)
        have h5 : (l.drop (kD day l)).getD (i - kD day l) default = l.getD i default := by
          rw [List.getD_eq_getElem?_getD, List.getElem?_drop, show kD day l + (i - kD day l) = i by omega, List.getD_eq_getElem?_getD]
        rw [h5] at h4
        rw [List.getD_eq_getElem?_getD, List.getElem?_append_right (by omega), htl, ← List.getD_eq_getElem?_getD, h4]
      have hl : day < (l.getD i default).du := by
        refine s5 _ ?_
        rw [show l.getD i default = (l.drop (kD day l)).getD (i - kD day l) default by rw [List.getD_eq_getElem?_getD, List.getD_eq_getElem?_getD, List.getElem?_drop, show kD day l + (i - kD day l) = i by omega]]
        exact getD_mem (by omega) _
      rw [e]; exact ⟨rfl, rfl, fun g2 => by omega, by simp only; omega⟩
  have hA4 : sumA (l.take (kD day l) ++ updL A (l.length - kD day l) 0 (l.drop (kD day l))) = sumA (l.take (kD day l)) + (sumP (l.drop (kD day l)) + A) := hsumA.1
  refine ⟨rt_of hR hlen (fun i hi => ?_) (by omega), by omega, by rw [hsumA.2]; omega, hlen, fun i hi => ⟨(hsame i hi).1, (hsame i hi).2.1, (hsame i hi).2.2.1⟩⟩
  have h4 := hsame i hi
  have h5 := hR.each _ (getD_mem (l := l) (i := i) hi default)
  omega
theorem turn_plan {a b : Nat} {f : Int} {n : Nat} (h : Planned a f n) (hb : b ≤ 4000000000000000000) : turnR (planL a f n) (b : Int) (f - 1) = (planL b f n, 0) ∧ Planned b f n := by
  have hR := h.right
  have hd := h.dues
  have hk : kD (f - 1) (planL a f n) = 0 := by
    refine (all_late (fun x hx => ?_)).1
    obtain ⟨i, hi, rfl⟩ := List.mem_map.1 hx
    have := (hd.2.2 i (List.mem_range.1 hi)).2.2.2
    omega
  have hl := planL_len a f n
  refine ⟨?_, ⟨h.n1, h.n12, hb, h.ok⟩⟩
  have hn := h.n1
  unfold turnR
  rw [if_neg (fun g => g ⟨rightB_iff.2 hR.1, by omega, by omega⟩), hk, hl, if_neg (by omega)]
  simp only [List.take_zero, List.drop_zero, Nat.sub_zero, List.nil_append, hR.2.2, show sumA [] = 0 from rfl, Int.sub_zero, Int.toNat_natCast]
  rw [if_neg (by omega)]
  congr 1
  apply List.ext_getElem
  · rw [updL_len, hl, planL_len]
  · intro i h1 h2
    rw [updL_len, hl] at h1
    have e1 := updL_at b n (planL a f n) 0 i (by omega)
    have e2 := planL_at (a := a) (f := f) h1 default
    have e3 := planL_at (a := b) (f := f) h1 default
    rw [e2, Nat.zero_add] at e1
    rw [List.getD_eq_getElem?_getD, List.getElem?_eq_getElem (by rw [updL_len, hl]; exact h1)] at e1
    rw [List.getD_eq_getElem?_getD, List.getElem?_eq_getElem h2] at e3
    simp only [Option.getD_some] at e1 e3
    rw [e1, e3]
    simp [planB]
theorem planR_of {a : Nat} {f t n : Int} {b : Nat} (h : Planned a f n.toNat) (hm : mayP (a : Int) f t n = true) (hb : b ≤ 4000000000000000000) : planR (b : Int) f t n = (planL b f n.toNat, 0) := by
  have h1 := mayP_iff.1 hm
  unfold planR
  rw [if_neg (by rw [mayP_iff.2 ⟨h1.1, by omega, by omega, h1.2.2.2⟩]; simp), if_neg (by rw [fits_all h.ok]; simp), Int.toNat_natCast]
theorem turn_plan_err {a : Nat} {f amt : Int} {n : Nat} (h : Planned a f n) (he : ¬ (turnR (planL a f n) amt (f - 1)).2 = 0) : amt < 0 ∨ amt > 4000000000000000000 := by
  by_cases h1 : 0 ≤ amt ∧ amt ≤ 4000000000000000000
  · have h2 := (turn_plan (b := amt.toNat) h (by omega)).1
    rw [show ((amt.toNat : Nat) : Int) = amt by omega] at h2
    rw [h2] at he; exact absurd rfl he
  · omega
end Go.Proofs.Ythkfedghiklmeaa
