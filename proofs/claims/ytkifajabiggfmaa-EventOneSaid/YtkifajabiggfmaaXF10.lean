import Derived.Test.YtkifajabiggfmaaXF9
section
set_option linter.unusedSimpArgs false
set_option linter.unusedVariables false
namespace Go.Proofs.Ytkifajabiggfmaa
set_option linter.unusedSimpArgs false
set_option linter.unusedVariables false
open Go.Bx
set_option maxRecDepth 10000
theorem split_ok2 {m : Int} (l : List Int) (h0 : 0 ≤ m) : (∀ d, d ∈ (splitR m l).1 → 0 ≤ d) ∧ (splitR m l).1.sum ≤ m := by
  by_cases h : (splitR m l).2 = 0
  · have ok := split_inv h
    have e := split_ok ok
    have hS : 0 < l.sum := ok.S0
    rw [e]
    refine ⟨fun d hd => ?_, ?_⟩
    · obtain ⟨k, hk⟩ := List.mem_iff_getElem?.1 hd
      have hkl : k < l.length := by have := (List.getElem?_eq_some_iff.1 hk).1; simpa [dealQ_len] using this
      have h2 := dealQ_at (m := m) (S := l.sum) hkl
      have h3 := take_sum hkl
      have hm : l.getD k 0 ∈ l := by rw [List.getD_eq_getElem?_getD, List.getElem?_eq_getElem hkl]; exact List.getElem_mem hkl
      have h4 := ok.nn _ hm
      have h5 := quo_le (s := (l.take k).sum) (t := (l.take (k + 1)).sum) h0 hS (by omega)
      rw [List.getD_eq_getElem?_getD, hk, Option.getD_some] at h2
      omega
    · have h2 := dealQ_take m l.sum l.length l 0
      rw [List.take_of_length_le (by rw [dealQ_len]; exact Nat.le_refl _), List.take_length] at h2
      rw [h2]
      have : m * (0 + l.sum) / l.sum = m := by rw [Int.zero_add]; exact Int.mul_ediv_cancel _ (by omega)
      simp only [this]; simp
  · rw [split_bad h]; simpa using h0
theorem sum_set {d : Int} (h0 : 0 ≤ d) : ∀ (out : List Int) (i : Nat), 0 ≤ out.getD i 0 → (out.set i d).sum ≤ out.sum + d
  | [], i, _ => by simpa using h0
  | a :: r, 0, h => by simp only [List.getD_cons_zero] at h; simp only [List.set_cons_zero, List.sum_cons]; omega
  | a :: r, i + 1, h => by
    have := sum_set h0 r i (by simpa using h)
    simp only [List.set_cons_succ, List.sum_cons]; omega
theorem putAll_ok (P : Nat → Prop) : ∀ (g ds out : List Int), (∀ d, d ∈ ds → 0 ≤ d) → (∀ i, i ∈ g → P i.toNat) → (∀ j, 0 ≤ out.getD j 0 ∧ (¬ P j → out.getD j 0 = 0)) →
    (∀ j, 0 ≤ (putAll out g ds).getD j 0 ∧ (¬ P j → (putAll out g ds).getD j 0 = 0)) ∧ (putAll out g ds).sum ≤ out.sum + ds.sum
  | [], ds, out, hd, _, ho => by
    refine ⟨by simpa [putAll] using ho, ?_⟩
    have := sum_nonneg hd
    simp only [putAll]; omega
  | i :: g, [], out, _, _, ho => ⟨by simpa [putAll] using ho, by simp [putAll]⟩
  | i :: g, d :: ds, out, hd, hg, ho => by
    rw [putAll]
    have h0 := hd d (by simp)
    have hs := sum_set h0 out i.toNat (ho i.toNat).1
    obtain ⟨g1, g2⟩ := putAll_ok P g ds (out.set i.toNat d) (fun x hx => hd x (by simp [hx])) (fun x hx => hg x (by simp [hx])) (fun j => by
      by_cases e : i.toNat = j
      · subst e
        have hP := hg i (by simp)
        refine ⟨?_, fun h => absurd hP h⟩
        by_cases hl : i.toNat < out.length
        · rw [List.getD_eq_getElem?_getD, List.getElem?_set_self hl]; exact h0
        · rw [List.getD_eq_getElem?_getD, List.getElem?_eq_none (by simp; omega)]; simp
      · rw [List.getD_eq_getElem?_getD, List.getElem?_set_ne e, ← List.getD_eq_getElem?_getD]; exact ho j)
    refine ⟨g1, ?_⟩
    simp only [List.sum_cons]; omega
theorem bearsF_ok (t : Tr) (l : List Ls) (P : Nat → Prop) (hl : l.length ≤ 2000) (hx : ∀ x, x ∈ l → lossX x = true) : ∀ (G : List (List Int)) (left : Int) (out : List Int), 0 ≤ left →
    (∀ g, g ∈ G → g.length ≤ l.length ∧ ∀ i, i ∈ g → 0 ≤ i ∧ i < (l.length : Int) ∧ P i.toNat) → (∀ j, 0 ≤ out.getD j 0 ∧ (¬ P j → out.getD j 0 = 0)) →
    (∀ j, 0 ≤ (bearsF t l left G out).getD j 0 ∧ (¬ P j → (bearsF t l left G out).getD j 0 = 0)) ∧ (bearsF t l left G out).sum ≤ out.sum + left ∧ (bearsF t l left G out).length = out.length
  | [], left, out, h0, _, ho => ⟨by simpa [bearsF] using ho, by simp only [bearsF]; omega, rfl⟩
  | g :: G, left, out, h0, hG, ho => by
    have hg := hG g (by simp)
    have ha := amts_bounds hx (g := g) (fun i hi => ⟨(hg.2 i hi).1, (hg.2 i hi).2.1⟩)
    have hs : (amtsT l g).sum ≤ 1000000000000000 * 2000 := by
      have : (g.length : Int) ≤ 2000 := by have := hg.1; omega
      have h2 : (1000000000000000 : Int) * g.length ≤ 1000000000000000 * 2000 := by omega
      omega
    have hp := part_nn t (amt := (amtsT l g).sum) ha.2.1 (by omega)
    obtain ⟨d1, d2⟩ := split_ok2 (m := min left (partT t (amtsT l g).sum)) (amtsT l g) (by omega)
    obtain ⟨p1, p2⟩ := putAll_ok P g _ out d1 (fun i hi => (hg.2 i hi).2.2) ho
    obtain ⟨f1, f2, f3⟩ := bearsF_ok t l P hl hx G (left - min left (partT t (amtsT l g).sum)) _ (by omega) (fun g' hg' => hG g' (by simp [hg'])) p1
    rw [bearsF]
    exact ⟨f1, by omega, by rw [f3, putAll_len]⟩
theorem evRun_takes (t : Tr) (all : List Ls) : ∀ (l : List Ls) (k : Nat) (s : EvS), all.drop k = l → (∀ g, g ∈ s.G → ∀ i, i ∈ g → takesT t (all.getD i.toNat default) = true) → ∀ g, g ∈ (evRun t k l s).G → ∀ i, i ∈ g → takesT t (all.getD i.toNat default) = true
  | [], _, s, _, hs => by simpa [evRun] using hs
  | x :: r, k, s, hd, hs => by
    rw [evRun]
    have hk : k < all.length := by
      by_cases h : k < all.length
      · exact h
      · rw [List.drop_eq_nil_of_le (by omega)] at hd; cases hd
    obtain ⟨x', hd', hg, -, -⟩ := drop_at hk
    rw [hd] at hd'
    cases hd'
    refine evRun_takes t all _ (k + 1) _ rfl ?_
    unfold evStep
    split
    · rename_i ht
      have hkx : takesT t (all.getD ((k : Int)).toNat default) = true := by rw [Int.toNat_natCast, hg]; exact ht
      split
      · intro g hg' i hi
        rcases List.mem_or_eq_of_mem_set hg' with h1 | h1
        · exact hs g h1 i hi
        · subst h1
          rcases List.mem_append.1 hi with h2 | h2
          · by_cases hl : (s.kn x.ev - 1).toNat < s.G.length
            · rw [List.getD_eq_getElem?_getD, List.getElem?_eq_getElem hl] at h2
              exact hs _ (List.getElem_mem hl) i h2
            · rw [List.getD_eq_getElem?_getD, List.getElem?_eq_none (by omega)] at h2; simp at h2
          · simp at h2; subst h2; exact hkx
      · intro g hg' i hi
        rcases List.mem_append.1 hg' with h1 | h1
        · exact hs g h1 i hi
        · simp at h1; subst h1; simp at hi; subst hi; exact hkx
    · exact hs
theorem split_le {m : Int} {l : List Int} (h0 : 0 ≤ m) (hm : m ≤ l.sum) (q : Nat) : (splitR m l).1.getD q 0 ≤ max 0 (l.getD q 0) := by
  by_cases h : (splitR m l).2 = 0
  · have ok := split_inv h
    have hS : 0 < l.sum := ok.S0
    rw [split_ok ok]
    simp only
    by_cases hql : q < l.length
    · rw [dealQ_at hql]
      have h3 := take_sum hql
      have hmm : l.getD q 0 ∈ l := by rw [List.getD_eq_getElem?_getD, List.getElem?_eq_getElem hql]; exact List.getElem_mem hql
      have h4 := ok.nn _ hmm
      generalize l.getD q 0 = p at *
      generalize (l.take q).sum = n at *
      rw [h3]
      have h5 : m * (n + p) / l.sum ≤ (m * n + l.sum * p) / l.sum := Int.ediv_le_ediv hS (by
        rw [Int.mul_add]
        have := Int.mul_le_mul_of_nonneg_right hm h4
        omega)
      rw [Int.add_mul_ediv_left _ _ (by omega)] at h5
      omega
    · rw [List.getD_eq_getElem?_getD, List.getElem?_eq_none (by rw [dealQ_len]; omega)]
      simp; omega
  · rw [split_bad h]; simp; omega
theorem putAll_le (B : Nat → Int) : ∀ (g ds out : List Int), (∀ q, q < g.length → q < ds.length → ds.getD q 0 ≤ B (g.getD q 0).toNat) → (∀ j, j < out.length → out.getD j 0 ≤ B j) → ∀ j, j < out.length → (putAll out g ds).getD j 0 ≤ B j
  | [], ds, out, _, ho => by simpa [putAll] using ho
  | i :: g, [], out, _, ho => by simpa [putAll] using ho
  | i :: g, d :: ds, out, hd, ho => by
    rw [putAll]
    have h0 := hd 0 (by simp) (by simp)
    simp only [List.getD_cons_zero] at h0
    intro j hj
    refine putAll_le B g ds (out.set i.toNat d) (fun q h1 h2 => by simpa using hd (q + 1) (by simpa using h1) (by simpa using h2)) (fun j hj => ?_) j (by simpa using hj)
    rw [List.length_set] at hj
    by_cases e : i.toNat = j
    · subst e
      rw [List.getD_eq_getElem?_getD, List.getElem?_set_self hj]; exact h0
    · rw [List.getD_eq_getElem?_getD, List.getElem?_set_ne e, ← List.getD_eq_getElem?_getD]; exact ho j hj
theorem bearsF_le (t : Tr) (l : List Ls) (hl : l.length ≤ 2000) (hx : ∀ x, x ∈ l → lossX x = true) : ∀ (G : List (List Int)) (left : Int) (out : List Int), 0 ≤ left → out.length = l.length →
    (∀ g, g ∈ G → g.length ≤ l.length ∧ ∀ i, i ∈ g → 0 ≤ i ∧ i < (l.length : Int)) → (∀ j, j < out.length → out.getD j 0 ≤ (l.getD j default).amt) → ∀ j, j < out.length → (bearsF t l left G out).getD j 0 ≤ (l.getD j default).amt
  | [], _, out, _, _, _, ho => by simpa [bearsF] using ho
  | g :: G, left, out, h0, hol, hG, ho => by
    have hg := hG g (by simp)
    have ha := amts_bounds hx (g := g) hg.2
    have hs : (amtsT l g).sum ≤ 1000000000000000 * 2000 := by
      have : (g.length : Int) ≤ 2000 := by have := hg.1; omega
      have h2 : (1000000000000000 : Int) * g.length ≤ 1000000000000000 * 2000 := by omega
      omega
    have hp := part_nn t (amt := (amtsT l g).sum) ha.2.1 (by omega)
    rw [bearsF]
    intro j hj
    refine bearsF_le t l hl hx G _ _ (by omega) (by rw [putAll_len]; exact hol) (fun g' hg' => hG g' (by simp [hg'])) (fun j hj => ?_) j (by rw [putAll_len]; exact hj)
    rw [putAll_len] at hj
    refine putAll_le (fun j => (l.getD j default).amt) g _ out (fun q h1 h2 => ?_) ho j hj
    by_cases hs1 : (amtsT l g).sum ≤ 1000000000000000000
    · have hpb := part_bounds t ha.2.1 hs1
      have h3 := split_le (m := min left (partT t (amtsT l g).sum)) (l := amtsT l g) (by omega) (by omega) q
      have h4 : (amtsT l g).getD q 0 = (l.getD (g.getD q 0).toNat default).amt := by
        rw [amtsT, List.getD_eq_getElem?_getD, List.getElem?_map, List.getElem?_eq_getElem h1, List.getD_eq_getElem?_getD (l := g), List.getElem?_eq_getElem h1]; rfl
      have h5 : 0 ≤ (amtsT l g).getD q 0 := by
        have : (amtsT l g).getD q 0 ∈ amtsT l g := by
          have hq : q < (amtsT l g).length := by rw [amtsT, List.length_map]; exact h1
          rw [List.getD_eq_getElem?_getD, List.getElem?_eq_getElem hq]; exact List.getElem_mem hq
        exact (ha.1 _ this).1
      omega
    · 
      have h6 : partT t (amtsT l g).sum ≤ (amtsT l g).sum := by
        unfold partT
        split
        · omega
        · rename_i h
          have h' : highT t = true ∧ ¬ (amtsT l g).sum ≤ t.att := by simpa using h
          have hb := high_bounds h'.1
          omega
      have h3 := split_le (m := min left (partT t (amtsT l g).sum)) (l := amtsT l g) (by omega) (by omega) q
      have h4 : (amtsT l g).getD q 0 = (l.getD (g.getD q 0).toNat default).amt := by
        rw [amtsT, List.getD_eq_getElem?_getD, List.getElem?_map, List.getElem?_eq_getElem h1, List.getD_eq_getElem?_getD (l := g), List.getElem?_eq_getElem h1]; rfl
      have h5 : 0 ≤ (amtsT l g).getD q 0 := by
        have : (amtsT l g).getD q 0 ∈ amtsT l g := by
          have hq : q < (amtsT l g).length := by rw [amtsT, List.length_map]; exact h1
          rw [List.getD_eq_getElem?_getD, List.getElem?_eq_getElem hq]; exact List.getElem_mem hq
        exact (ha.1 _ this).1
      omega
structure MOk (t : Tr) (l : List Ls) (b : List Int) : Prop where
  len : b.length = l.length
  bd : ∀ j, j < l.length → 0 ≤ b.getD j 0 ∧ b.getD j 0 ≤ (l.getD j default).amt ∧ (0 < b.getD j 0 → takesT t (l.getD j default) = true)
  sum : b.sum ≤ roomT t
theorem bearsE_bad {t : Tr} {l : List Ls} (h : (bearsE t l).2 ≠ 0) : (bearsE t l).1 = [] := by
  unfold bearsE at h ⊢
  split at h
  · rename_i h1; rw [if_pos h1]
  · rename_i h1
    rw [if_neg h1]
    split at h
    · rename_i h2; rw [if_pos h2]
    · simp at h
theorem bearsE_inv {t : Tr} {l : List Ls} (h : (bearsE t l).2 = 0) : (t.kind = 3 ∧ rightT t = true) ∧ (∀ x, x ∈ l → lossX x = true) ∧ l.length ≤ 2000 ∧ bearsE t l = (bearsF t l (roomT t) (eventsT t l) (List.replicate l.length 0), 0) := by
  unfold bearsE at h ⊢
  split at h
  · simp at h
  · rename_i h1
    rw [if_neg h1]
    split at h
    · simp at h
    · rename_i h2
      rw [if_neg h2]
      simp only [Bool.or_eq_true, not_or, Bool.not_eq_true] at h1
      refine ⟨⟨by simpa using h1.1.1, by simpa using h1.1.2⟩, fun x hx => ?_, by omega, rfl⟩
      have := List.any_eq_false.1 h1.2 x hx
      simpa using this
theorem bearsE_ok {t : Tr} {l : List Ls} (h : (bearsE t l).2 = 0) : MOk t l (bearsE t l).1 := by
  obtain ⟨-, hx, h2, e⟩ := bearsE_inv h
  rw [e]
  have hroom := (roomT_eq t).2
  obtain ⟨e1, e2, e3⟩ := events_ok t l
  have e4 := evRun_takes t l l 0 ⟨[], fun _ => 0⟩ rfl (by simp)
  have hz : ∀ (n j : Nat), (List.replicate n (0 : Int)).getD j 0 = 0 := fun n j => by
    rw [List.getD_eq_getElem?_getD, List.getElem?_replicate]; split <;> rfl
  obtain ⟨f1, f2, f3⟩ := bearsF_ok t l (fun j => takesT t (l.getD j default) = true) h2 hx (eventsT t l) (roomT t) (List.replicate l.length 0) (by omega)
    (fun g hg => ⟨(e2 g hg).2, fun i hi => ⟨(e3 g hg i hi).1, (e3 g hg i hi).2, e4 g hg i hi⟩⟩) (fun j => by rw [hz]; simp)
  have f4 := bearsF_le t l h2 hx (eventsT t l) (roomT t) (List.replicate l.length 0) (by omega) (by simp) (fun g hg => ⟨(e2 g hg).2, fun i hi => e3 g hg i hi⟩) (fun j hj => by
    rw [hz]
    rw [List.length_replicate] at hj
    have : l.getD j default ∈ l := by rw [List.getD_eq_getElem?_getD, List.getElem?_eq_getElem hj]; exact List.getElem_mem hj
    exact (lossX_iff.1 (hx _ this)).2.2.2.2.1)
  refine ⟨by rw [f3]; simp, fun j hj => ⟨(f1 j).1, f4 j (by simpa using hj), fun hp => ?_⟩, ?_⟩
  · cases hh : takesT t (l.getD j default) with
    | true => rfl
    | false =>
      have hp' : 0 < (bearsF t l (roomT t) (eventsT t l) (List.replicate l.length 0)).getD j 0 := hp
      have := (f1 j).2 (by rw [hh]; simp); omega
  · have : (List.replicate l.length (0 : Int)).sum = 0 := by simp
    simp only at f2 ⊢; omega
end Go.Proofs.Ytkifajabiggfmaa
end
section
set_option linter.unusedSimpArgs false
set_option linter.unusedVariables false
namespace Go.Proofs.Ytkifajabiggfmaa
set_option linter.unusedSimpArgs false
set_option linter.unusedVariables false
open Go.Bx
set_option maxRecDepth 10000
def iot (k n : Nat) : List Int := (List.range n).map fun i => ((k + i : Nat) : Int)
theorem iot_0 (k : Nat) : iot k 0 = [] := rfl
theorem iot_succ (k n : Nat) : iot k (n + 1) = (k : Int) :: iot (k + 1) n := by
  unfold iot
  rw [List.range_succ_eq_map, List.map_cons, List.map_map]
  congr 1
  apply List.map_congr_left
  intro i _
  simp only [Function.comp]
  congr 1; omega
theorem evRun_one (t : Tr) : ∀ (r : List Ls) (k : Nat) (g : List Int) (kn : Int → Int), (∀ x, x ∈ r → x.ev = 5 ∧ takesT t x = true) → kn 5 = 1 → (evRun t k r ⟨[g], kn⟩).G = [g ++ iot k r.length]
  | [], k, g, _, _, _ => by simp [evRun, iot_0]
  | x :: r, k, g, kn, h, hk => by
    have h0 := h x (by simp)
    have e : evStep t (k : Int) x ⟨[g], kn⟩ = ⟨[g ++ [(k : Int)]], kn⟩ := by
      rw [evStep, if_pos h0.2, if_pos (by rw [h0.1]; show (5 : Int) ≠ 0 ∧ 0 < kn 5; rw [hk]; omega), h0.1]; simp only [hk]; rfl
    rw [evRun, e, evRun_one t r (k + 1) _ kn (fun y hy => h y (by simp [hy])) hk, List.length_cons, iot_succ]
    simp
theorem events_one {t : Tr} {l : List Ls} (hl : 0 < l.length) (h : ∀ x, x ∈ l → x.ev = 5 ∧ takesT t x = true) : eventsT t l = [iot 0 l.length] := by
  cases l with
  | nil => simp at hl
  | cons x r =>
    have h0 := h x (by simp)
    have e : evStep t ((0 : Nat) : Int) x ⟨[], fun _ => 0⟩ = ⟨[[0]], fun n => if n = 5 then 1 else 0⟩ := by
      rw [evStep, if_pos h0.2, if_neg (by simp), h0.1]; rfl
    rw [eventsT, evRun, e, evRun_one t r 1 [0] _ (fun y hy => h y (by simp [hy])) (by simp), List.length_cons, iot_succ]
    rfl
theorem events_none {t : Tr} : ∀ {l : List Ls}, (∀ x, x ∈ l → takesT t x = false) → eventsT t l = [] := by
  have key : ∀ (l : List Ls) (k : Nat) (s : EvS), (∀ x, x ∈ l → takesT t x = false) → evRun t k l s = s := by
    intro l
    induction l with
    | nil => intro _ _ _; rfl
    | cons x r ih =>
      intro k s h
      have : evStep t (k : Int) x s = s := by rw [evStep, if_neg (by rw [h x (by simp)]; simp)]
      rw [evRun, this]; exact ih _ _ (fun y hy => h y (by simp [hy]))
  intro l h
  rw [eventsT, key l 0 _ h]
theorem putAll_iot : ∀ (ds a z : List Int), z.length = ds.length → putAll (a ++ z) (iot a.length ds.length) ds = a ++ ds
  | [], a, z, h => by
    have : z = [] := List.eq_nil_of_length_eq_zero (by simpa using h)
    simp [putAll, iot_0, this]
  | d :: ds, a, z, h => by
    cases z with
    | nil => simp at h
    | cons y z =>
      rw [List.length_cons, iot_succ, putAll, Int.toNat_natCast]
      have e : (a ++ y :: z).set a.length d = (a ++ [d]) ++ z := by rw [List.set_append_right _ _ (Nat.le_refl _)]; simp
      rw [e]
      have := putAll_iot ds (a ++ [d]) z (by simpa using h)
      rw [List.length_append, List.length_singleton] at this
      rw [this]; simp
theorem amts_iot (l : List Ls) : ∀ (r : List Ls) (k : Nat), l.drop k = r → amtsT l (iot k r.length) = r.map (·.amt)
  | [], k, _ => rfl
  | x :: r, k, h => by
    have hk : k < l.length := by
      have := congrArg List.length h
      rw [List.length_drop, List.length_cons] at this; omega
    obtain ⟨x', hd', hg, -, -⟩ := drop_at hk
    rw [h] at hd'
    injection hd' with e1 e2
    subst e1
    rw [List.length_cons, iot_succ, amtsT, List.map_cons, Int.toNat_natCast, hg, List.map_cons]
    congr 1
    exact amts_iot l r (k + 1) e2.symm
theorem split_all {b : Int} {l : List Int} (ok : SOk b l) : (splitR b l).1.sum = b ∧ (splitR b l).1.length = l.length := by
  rw [split_ok ok]
  simp only [dealQ_len, and_true]
  have h2 := dealQ_take b l.sum l.length l 0
  rw [List.take_of_length_le (by rw [dealQ_len]; exact Nat.le_refl _), List.take_length] at h2
  rw [h2, Int.zero_add, Int.mul_ediv_cancel _ (by have := ok.S0; omega)]; simp
theorem bearsF_one {t : Tr} {l : List Ls} (hl : 0 < l.length) (h2 : l.length ≤ 2000) (hx : ∀ x, x ∈ l → lossX x = true ∧ x.ev = 5 ∧ takesT t x = true) (hs : (l.map (·.amt)).sum ≤ 1000000000000000) :
    (bearsF t l (roomT t) (eventsT t l) (List.replicate l.length 0)).sum = min (roomT t) (partT t (l.map (·.amt)).sum) := by
  have hroom := (roomT_eq t).2
  have hnn : ∀ a, a ∈ l.map (·.amt) → 0 ≤ a := fun a ha => by
    obtain ⟨x, hxm, rfl⟩ := List.mem_map.1 ha
    exact (lossX_iff.1 (hx x hxm).1).2.2.2.2.1
  have hs0 := sum_nonneg hnn
  have hp := part_bounds t (amt := (l.map (·.amt)).sum) hs0 (by omega)
  have ha := amts_iot l l 0 rfl
  rw [events_one hl (fun x hm => (hx x hm).2), bearsF, bearsF, ha]
  generalize hb : min (roomT t) (partT t (l.map (·.amt)).sum) = b at *
  by_cases h0 : 0 < (l.map (·.amt)).sum
  · have ok : SOk b (l.map (·.amt)) := ⟨by omega, by omega, by rw [List.length_map]; exact h2, hnn, h0, by omega⟩
    obtain ⟨s1, s2⟩ := split_all ok
    rw [List.length_map] at s2
    have := putAll_iot (splitR b (l.map (·.amt))).1 [] (List.replicate l.length 0) (by rw [List.length_replicate, s2])
    rw [List.nil_append, List.length_nil, s2] at this
    rw [this, List.nil_append, s1]
  · have hb0 : b = 0 := by omega
    have hbad : (splitR b (l.map (·.amt))).1 = [] := by
      by_cases h : (splitR b (l.map (·.amt))).2 = 0
      · have := (split_inv h).S0; omega
      · exact split_bad h
    rw [hbad]
    have : putAll (List.replicate l.length 0) (iot 0 l.length) [] = List.replicate l.length 0 := by
      cases iot 0 l.length <;> simp [putAll]
    rw [this, hb0]; simp
def smT (d p : Int) (x : Ls) : Ls := ⟨x.cl, 5, d, p, x.amt⟩
theorem one_eq {t : Tr} {l : List Ls} {d p c : Int} (hl : 0 < l.length) (h2 : l.length ≤ 150) (hx : ∀ x, x ∈ l → lossX (smT d p x) = true ∧ x.amt ≤ 5000000000000) (hc : c = (l.getD 0 default).cl) :
    (bearsE t (l.map (smT d p))).2 = (bearsE t [⟨c, 5, d, p, (l.map (·.amt)).sum⟩]).2 ∧ ((bearsE t (l.map (smT d p))).2 = 0 → (bearsE t [⟨c, 5, d, p, (l.map (·.amt)).sum⟩]).1 = [(bearsE t (l.map (smT d p))).1.sum]) := by
  have hs : 0 ≤ (l.map (·.amt)).sum ∧ (l.map (·.amt)).sum ≤ 5000000000000 * l.length := by
    clear hc hl h2
    induction l with
    | nil => simp
    | cons x r ih =>
      have h0 := hx x (by simp)
      have h1 := (lossX_iff.1 h0.1).2.2.2.2.1
      have := ih (fun y hy => hx y (by simp [hy]))
      simp only [smT] at h1
      simp only [List.map_cons, List.sum_cons, List.length_cons]
      omega
  have hm0 : l.getD 0 default ∈ l := by rw [List.getD_eq_getElem?_getD, List.getElem?_eq_getElem hl]; exact List.getElem_mem hl
  have hx0 := lossX_iff.1 (hx _ hm0).1
  simp only [smT] at hx0
  have hX : ∀ x, x ∈ l.map (smT d p) → lossX x = true := fun x hm => by obtain ⟨y, hy, rfl⟩ := List.mem_map.1 hm; exact (hx y hy).1
  have hA : lossX ⟨c, 5, d, p, (l.map (·.amt)).sum⟩ = true := lossX_iff.2 ⟨by rw [hc]; exact hx0.1, hx0.2.1, hx0.2.2.1, hx0.2.2.2.1, by simp only; omega⟩
  generalize hAe : (⟨c, 5, d, p, (l.map (·.amt)).sum⟩ : Ls) = A at *
  have a1 : (l.map (smT d p)).any (fun x => !(lossX x)) = false := List.any_eq_false.2 fun x h => by simp [hX x h]
  have a2 : [A].any (fun x => !(lossX x)) = false := by simp [hA]
  have l1 : (l.map (smT d p)).length = l.length := List.length_map _
  rw [bearsE, bearsE, a1, a2]
  by_cases h1 : (t.kind != 3 || !(rightT t) || false) = true
  · rw [if_pos h1, if_pos h1]; exact ⟨rfl, fun h => by simp at h⟩
  · rw [if_neg h1, if_neg h1, if_neg (by omega), if_neg (by simp)]
    refine ⟨rfl, fun _ => ?_⟩
    simp only
    have ht : ∀ x, takesT t (smT d p x) = (rightT t && lossX (smT d p x) && inS t.sf t.st d && bitB t.per p) := fun x => rfl
    have hta : takesT t A = (rightT t && lossX A && inS t.sf t.st d && bitB t.per p) := by rw [← hAe]; rfl
    have am : (l.map (smT d p)).map (·.amt) = l.map (·.amt) := by rw [List.map_map]; rfl
    by_cases hT : takesT t A = true
    · have hTT : (rightT t && inS t.sf t.st d && bitB t.per p) = true := by
        rw [hta] at hT; simp only [Bool.and_eq_true] at hT ⊢; exact ⟨⟨hT.1.1.1, hT.1.2⟩, hT.2⟩
      have k1 := bearsF_one (t := t) (l := l.map (smT d p)) (by omega) (by omega) (fun x hm => by
        obtain ⟨y, hy, rfl⟩ := List.mem_map.1 hm
        refine ⟨(hx y hy).1, rfl, ?_⟩
        rw [ht, (hx y hy).1]; simp only [Bool.and_eq_true] at hTT ⊢; exact ⟨⟨⟨hTT.1.1, trivial⟩, hTT.1.2⟩, hTT.2⟩) (by rw [am]; omega)
      have k2 := bearsF_one (t := t) (l := [A]) (by simp) (by simp) (fun x hm => by
        rw [List.mem_singleton] at hm; subst hm
        exact ⟨hA, by rw [← hAe], hT⟩) (by rw [← hAe]; simp; omega)
      have hsum : ([A].map (·.amt)).sum = (l.map (·.amt)).sum := by rw [← hAe]; simp
      rw [hsum, ← am, ← k1] at k2
      generalize hF : bearsF t [A] (roomT t) (eventsT t [A]) (List.replicate [A].length 0) = F at *
      have hFl : F.length = 1 := by rw [← hF, bearsF_len]; simp
      obtain ⟨v, rfl⟩ : ∃ v, F = [v] := by
        match F, hFl with
        | [v], _ => exact ⟨v, rfl⟩
      rw [← k2]; simp
    · have hTF : ∀ x, x ∈ l.map (smT d p) → takesT t x = false := fun x hm => by
        obtain ⟨y, hy, rfl⟩ := List.mem_map.1 hm
        rw [Bool.not_eq_true, hta, hA] at hT
        rw [ht, (hx y hy).1]; exact hT
      rw [events_none hTF, events_none (l := [A]) (fun x hm => by rw [List.mem_singleton] at hm; subst hm; simpa using hT), bearsF, bearsF]
      simp
def alT (x : Ls) (s : Int) : Ls := ⟨x.cl, 5, x.day, x.per, s⟩
theorem vle_all (x : Ls) (s : Int) : VLe (.d (.sl true 5 1 (litRow 5 [.int .i64 x.cl, .int .i64 5, .int .i64 x.day, .int .i64 x.per, .int .i64 s]))) (.d (slX [alT x s])) :=
  VLe.sl rfl (fun _ => rfl) (fun h => by cases h) fun i hi => by
    have : i = 0 := by omega
    subst this; rfl
set_option maxHeartbeats 4000000 in
theorem lOne (t : Tr) (l : List Ls) (hl9 : l.length ≤ 9223372036854775807) : Ctr Try.prog 8 [vT t, .d (slX l)] [] (.d (.bool true)) [] [] := by
  have c0 := few l
  by_cases hl : l.length ≤ 150 ∧ 0 < l.length
  · have e1 : decide (l.length ≤ 150) = true := decide_eq_true hl.1
    rw [e1] at c0
    obtain ⟨y, hy⟩ : ∃ y, l.getD 0 default = y := ⟨_, rfl⟩
    have hz : ((l.length : Int) == 0) = false := by rw [beq_eq_false_iff_ne]; omega
    have hz1 : (0 : Int) < (l.length : Int) := by omega
    have hz2 := hl.2
    simp only [slX] at c0
    refine ctr_pure Try.func8 ok8 rfl cc8 cr8 Try.ntmps8 (by simp) rfl rfl ?_; intro c hP hfn; simp only [kc8, vT, cT, slX, hz, ↓impFT, ↓impTF, vcb, ↓evSo_some, ↓reduceIte, reduceCtorEq, seval]
    repeat' first
        | (first
            | refine TR.p hP (by first | exact c0) (by repeat' first | exact trivial | (intro _; assumption) | apply And.intro) ?_
            | refine TR.gp hP rfl (fun _ => by first | exact c0) (fun _ => by repeat' first | exact trivial | (intro _; assumption) | apply And.intro) ?_
            | refine TR.pv hP rfl (by first | exact c0) trivial (by repeat' first | exact trivial | (intro _; assumption) | apply And.intro) ?_
           try simp only [hz, hy, ↓impFT, ↓impTF, vcb, ↓evSo_some, ↓reduceIte, reduceCtorEq, seval])
        | refine And.intro (fun h => ?_) (fun h => ?_)
        | refine And.intro (by first | omega | (simp only [maxLen, decide_eq_true_eq, decide_eq_false_iff_not] at *; omega)) ?_
        | (refine TR.aslO rfl rfl rfl rfl trivial (Nat.le_of_ble_eq_true rfl) ?_
           try simp only [hz, hy, ↓impFT, ↓impTF, vcb, ↓evSo_some, ↓reduceIte, reduceCtorEq, seval])
        | refine And.intro trivial ?_
        | refine And.intro rfl ?_
        | fail
    refine vcC.loop (X := Nat) (fun k => ⟨[(2, .own 2 0), (5, .osl 1000), (6, .own 6 0), (30, .d (slX l)), (31, .d (.int .i64 l.length)), (32, .d (.int .i64 k))],
        [(2, .fix (cT t)), (6, .fix (cX' (alT y ((l.take k).map (·.amt)).sum))), (1000, .row 26 5 ((l.take k).map (smT y.day y.per)).length (fun i => (fun x : Ls => [.int .i64 x.cl, .int .i64 x.ev, .int .i64 x.day, .int .i64 x.per, .int .i64 x.amt]) (((l.take k).map (smT y.day y.per)).getD i default)))], [2, 6, 1000]⟩)
      (fun k => k ≤ l.length ∧ ∀ x, x ∈ l.take k → lossX (smT y.day y.per x) = true ∧ x.amt ≤ 5000000000000) (fun k => l.length - k) 0 ⟨Nat.zero_le _, by simp⟩
      ((Wk.row0 (s := 5) (k := 1000) (e := 26) (sz := 5) (f' := fun _ => []) rfl rfl (by simp)).trans (Wk.of _ hfn rfl (by simp only [slX, enb, vcb, ↓evSo_some, ↓reduceIte, reduceCtorEq, seval]) (by simp only [cT, cX', alT, List.take_zero, List.map_nil, List.sum_nil, enb, vcb, ↓evSo_some, ↓reduceIte, reduceCtorEq, seval]; exact OLe.row rfl (fun i hi => absurd hi (Nat.not_lt_zero i))))) ?_
    rintro k ⟨hk, hI⟩
    have hal : ((l.take k).map (smT y.day y.per)).length = k := by rw [List.length_map, List.length_take]; omega
    by_cases hlt : k < l.length
    · obtain ⟨x, hd, hg, -, hat⟩ := drop_at hlt
      have b0 : decide ((k : Int) < (l.length : Int)) = true := decide_eq_true (by omega)
      have htk : l.take (k + 1) = l.take k ++ [x] := by rw [List.take_add_one, hat]; rfl
      have htm : (l.take (k + 1)).map (smT y.day y.per) = (l.take k).map (smT y.day y.per) ++ [smT y.day y.per x] := by rw [htk]; simp
      have hbytes : (((l.take k).map (smT y.day y.per)).length + 1) * 40 ≤ 140737488355328 := by omega
      have hmx : ((l.take k).map (smT y.day y.per)).length + 1 ≤ maxLen := by simp only [maxLen]; omega
      have ewk : IntKind.i64.wrap ((k : Int) + 1) = ((k + 1 : Nat) : Int) := wS (by omega)
      have cl := s28 (smT y.day y.per x)
      simp only [vX, cX', smT] at cl
      simp only [slX, cT, cX', alT, hg, b0, ↓impFT, ↓impTF, vcb, ↓evSo_some, ↓reduceIte, reduceCtorEq, seval]
      repeat' first
          | (first
              | refine TR.p hP (by first | exact cl) (by repeat' first | exact trivial | (intro _; assumption) | apply And.intro) ?_
              | refine TR.gp hP rfl (fun _ => by first | exact cl) (fun _ => by repeat' first | exact trivial | (intro _; assumption) | apply And.intro) ?_
              | refine TR.pv hP rfl (by first | exact cl) trivial (by repeat' first | exact trivial | (intro _; assumption) | apply And.intro) ?_
             try simp only [hg, b0, ewk, ↓impFT, ↓impTF, vcb, ↓evSo_some, ↓reduceIte, reduceCtorEq, seval])
          | refine And.intro (fun h => ?_) (fun h => ?_)
          | refine And.intro (by first | omega | (simp only [maxLen, decide_eq_true_eq, decide_eq_false_iff_not] at *; omega)) ?_
          | (refine TR.aslO rfl rfl rfl rfl trivial (Nat.le_of_ble_eq_true rfl) ?_
             try simp only [hg, b0, ewk, ↓impFT, ↓impTF, vcb, ↓evSo_some, ↓reduceIte, reduceCtorEq, seval])
          | refine And.intro trivial ?_
          | refine And.intro rfl ?_
          | fail
      · refine TR.p hP lAlive (by repeat' first | exact trivial | (intro _; assumption) | apply And.intro) ?_
        simp only [vcb, ↓evSo_some, ↓reduceIte, reduceCtorEq, seval]
        exact RetK.pure (by simp only [rs8, rsb, vcb, ↓evSo_some, ↓reduceIte, reduceCtorEq, seval]) (by (simp only [rs8, rsb, vcb, ↓evSo_some, ↓reduceIte, reduceCtorEq, seval, enb, vcb, ↓evSo_some, ↓reduceIte, reduceCtorEq, seval]) <;> (first | rfl))
      · have hok : lossX (smT y.day y.per x) = true ∧ x.amt ≤ 5000000000000 := by
          simp only [smT]; simp at h; exact ⟨h.1, by omega⟩
        have hI' : ∀ z, z ∈ l.take (k + 1) → lossX (smT y.day y.per z) = true ∧ z.amt ≤ 5000000000000 := fun z hz => by
          rw [htk] at hz
          rcases List.mem_append.1 hz with h1 | h1
          · exact hI z h1
          · simp at h1; subst h1; exact hok
        have hss : ((l.take (k + 1)).map (·.amt)).sum = ((l.take k).map (·.amt)).sum + x.amt := by rw [htk]; simp
        have hb : ∀ (r : List Ls), (∀ x, x ∈ r → lossX (smT y.day y.per x) = true ∧ x.amt ≤ 5000000000000) → 0 ≤ (r.map (·.amt)).sum ∧ (r.map (·.amt)).sum ≤ 5000000000000 * r.length := by
          intro r
          induction r with
          | nil => intro _; simp
          | cons z r ih =>
            intro h
            have h0 := h z (by simp)
            have h1 := (lossX_iff.1 h0.1).2.2.2.2.1
            have := ih (fun u hu => h u (by simp [hu]))
            simp only [smT] at h1
            simp only [List.map_cons, List.sum_cons, List.length_cons]
            omega
        have hb1 := hb _ hI'
        have hb2 : (l.take (k + 1)).length ≤ 150 := by rw [List.length_take]; omega
        have ews : IntKind.i64.wrap (((l.take k).map (·.amt)).sum + x.amt) = ((l.take (k + 1)).map (·.amt)).sum := by rw [hss]; exact wI (by omega)
        exact lopK.on (k + 1) ⟨hlt, hI'⟩ (by omega) ((Wk.sw 61 1000 _ hfn (by simp) (by simp)).trans (Wk.of _ hfn rfl (by simp only [slX, enb, vcb, ↓evSo_some, ↓reduceIte, reduceCtorEq, seval]) (by simp only [cT, cX', alT, htm, ews, enb, vcb, ↓evSo_some, ↓reduceIte, reduceCtorEq, seval]; exact OLe.app1 (cells := fun x : Ls => [.int .i64 x.cl, .int .i64 x.ev, .int .i64 x.day, .int .i64 x.per, .int .i64 x.amt]) (fun i hi => by simp only [if_pos hi]) (by simp [smT, litRow]))))
    · have hkl : k = l.length := by omega
      have b0 : decide ((k : Int) < (l.length : Int)) = false := decide_eq_false (by omega)
      have htk : l.take k = l := by rw [hkl, List.take_length]
      rw [htk] at hI
      obtain ⟨q1, q2⟩ := one_eq (t := t) hl.2 hl.1 hI (c := y.cl) (by rw [hy])
      have hml : (l.map (smT y.day y.per)).length = l.length := List.length_map _
      have c1 := sBears t (l.map (smT y.day y.per)) (by omega)
      have c2 := (sBears t [alT y (l.map (·.amt)).sum] (by simp)).arg (args := [_, _]) ⟨VLe.refl _, vle_all y _, trivial⟩
      have q3 : (bearsE t (l.map (smT y.day y.per))).2 = 0 → MOk t (l.map (smT y.day y.per)) (bearsE t (l.map (smT y.day y.per))).1 := fun h => bearsE_ok h
      have q4 : (bearsE t (l.map (smT y.day y.per))).2 ≠ 0 → (bearsE t (l.map (smT y.day y.per))).1 = [] := fun h => bearsE_bad h
      have hAl : alT y (l.map (·.amt)).sum = ⟨y.cl, 5, y.day, y.per, (l.map (·.amt)).sum⟩ := rfl
      rw [hAl] at c2
      have hbl := bearsE_len t (l.map (smT y.day y.per))
      generalize bearsE t (l.map (smT y.day y.per)) = R1 at *
      generalize bearsE t [⟨y.cl, 5, y.day, y.per, (l.map (·.amt)).sum⟩] = R2 at *
      obtain ⟨a, e⟩ := R1
      obtain ⟨b, f⟩ := R2
      simp only at q1 q2 q3 q4 c1 c2 hbl
      subst q1
      have hA : (∀ x, x ∈ a → 0 ≤ x) ∧ a.sum ≤ 101000000000000000 := by
        by_cases he : e = 0
        · have ok := q3 he
          refine ⟨fun x hx => ?_, ?_⟩
          · obtain ⟨k, hk⟩ := List.mem_iff_getElem?.1 hx
            have hkl := (List.getElem?_eq_some_iff.1 hk).1
            have := (ok.bd k (by rw [← ok.len]; exact hkl)).1
            rwa [List.getD_eq_getElem?_getD, hk] at this
          · have := ok.sum; have := (roomT_eq t).2; omega
        · rw [q4 he]; simp
      clear q3 q4
      simp only [vT, cT, slX, slK] at c1 c2
      simp only [slX, cT, cX', alT, b0, htk, ↓impFT, ↓impTF, vcb, ↓evSo_some, ↓reduceIte, reduceCtorEq, seval]
      refine TR.wk _ (Wk.pub 1000 rfl) ?_
      simp only [vcb, ↓evSo_some, ↓reduceIte, reduceCtorEq, seval]
      repeat' first
          | (first
              | refine TR.p hP (by first | exact c1 | exact c2) (by repeat' first | exact trivial | (intro _; assumption) | apply And.intro) ?_
              | refine TR.gp hP rfl (fun _ => by first | exact c1 | exact c2) (fun _ => by repeat' first | exact trivial | (intro _; assumption) | apply And.intro) ?_
              | refine TR.pv hP rfl (by first | exact c1 | exact c2) trivial (by repeat' first | exact trivial | (intro _; assumption) | apply And.intro) ?_
             try simp only [vcb, ↓evSo_some, ↓reduceIte, reduceCtorEq, seval])
          | refine And.intro (fun h => ?_) (fun h => ?_)
          | refine And.intro (by first | omega | (simp only [maxLen, decide_eq_true_eq, decide_eq_false_iff_not] at *; omega)) ?_
          | (refine TR.aslO rfl rfl rfl rfl trivial (Nat.le_of_ble_eq_true rfl) ?_
             try simp only [vcb, ↓evSo_some, ↓reduceIte, reduceCtorEq, seval])
          | refine And.intro trivial ?_
          | refine And.intro rfl ?_
          | fail
      refine vcC.loop (X := Nat) (fun k => ⟨[(10, .d (.int .i64 e)), (11, .d (slK .i64 b)), (12, .d (.int .i64 e)), (13, .d (.int .i64 (a.take k).sum)), (76, .d (slK .i64 a)), (77, .d (.int .i64 a.length)), (78, .d (.int .i64 k))], [], []⟩)
        (fun k => k ≤ a.length) (fun k => a.length - k) 0 (Nat.zero_le _) (Wk.of _ hfn rfl (by simp only [List.take_zero, List.sum_nil, enb, vcb, ↓evSo_some, ↓reduceIte, reduceCtorEq, seval]) (by simp only [enb, vcb, ↓evSo_some, ↓reduceIte, reduceCtorEq, seval])) ?_
      rintro i hi
      by_cases hlt2 : i < a.length
      · obtain ⟨m, hd, hg, hgm, hat⟩ := drop_at hlt2
        have hs := sum_take_le hA.1 (i + 1)
        have hs2 : (a.take (i + 1)).sum = (a.take i).sum + m := by rw [List.take_add_one, hat]; simp
        have ewk : IntKind.i64.wrap ((i : Int) + 1) = ((i + 1 : Nat) : Int) := wS (by omega)
        have ews : IntKind.i64.wrap ((a.take i).sum + m) = (a.take (i + 1)).sum := by rw [hs2]; exact wI (by omega)
        have b1 : decide ((i : Int) < (a.length : Int)) = true := decide_eq_true (by omega)
        simp only [hg, b1, ewk, ews, ↓impFT, ↓impTF, vcb, ↓evSo_some, ↓reduceIte, reduceCtorEq, seval]
        repeat' first
            | refine And.intro (fun h => ?_) (fun h => ?_)
            | refine And.intro (by first | omega | (simp only [maxLen, decide_eq_true_eq, decide_eq_false_iff_not] at *; omega)) ?_
            | (refine TR.aslO rfl rfl rfl rfl trivial (Nat.le_of_ble_eq_true rfl) ?_
               try simp only [hg, b1, ewk, ews, ↓impFT, ↓impTF, vcb, ↓evSo_some, ↓reduceIte, reduceCtorEq, seval])
            | refine And.intro trivial ?_
            | refine And.intro rfl ?_
            | fail
        exact lopK.on (i + 1) hlt2 (by omega) (Wk.of _ hfn rfl (by simp only [enb, vcb, ↓evSo_some, ↓reduceIte, reduceCtorEq, seval]) (by simp only [enb, vcb, ↓evSo_some, ↓reduceIte, reduceCtorEq, seval]))
      · have b1 : decide ((i : Int) < (a.length : Int)) = false := decide_eq_false (by omega)
        have hta : a.take i = a := by rw [show i = a.length by omega, List.take_length]
        by_cases he : e = 0
        · subst he
          rw [q2 rfl]
          have d3 : ((0 : Int) != 0) = false := rfl
          have d4 : (a.sum == a.sum) = true := by simp
          have d5 : (([a.sum].length : Int) == 1) = true := rfl
          have d6 : (0 : Int) < ([a.sum].length : Int) := by simp
          have d7 : 0 < [a.sum].length := by simp
          have d8 : [a.sum].getD 0 0 = a.sum := rfl
          simp only [b1, hta, d3, d4, d5, d8, ↓impFT, ↓impTF, vcb, ↓evSo_some, ↓reduceIte, reduceCtorEq, seval]
          repeat' first
              | (first
                  | refine TR.p hP (by first | exact lAlive) (by repeat' first | exact trivial | (intro _; assumption) | apply And.intro) ?_
                  | refine TR.gp hP rfl (fun _ => by first | exact lAlive) (fun _ => by repeat' first | exact trivial | (intro _; assumption) | apply And.intro) ?_
                  | refine TR.pv hP rfl (by first | exact lAlive) trivial (by repeat' first | exact trivial | (intro _; assumption) | apply And.intro) ?_
                 try simp only [d3, d4, d5, d8, vcb, ↓evSo_some, ↓reduceIte, reduceCtorEq, seval])
              | refine And.intro (fun h => ?_) (fun h => ?_)
              | refine And.intro (by first | omega | (simp only [maxLen, decide_eq_true_eq, decide_eq_false_iff_not] at *; omega)) ?_
              | (refine TR.aslO rfl rfl rfl rfl trivial (Nat.le_of_ble_eq_true rfl) ?_
                 try simp only [d3, d4, d5, d8, vcb, ↓evSo_some, ↓reduceIte, reduceCtorEq, seval])
              | refine And.intro trivial ?_
              | refine And.intro rfl ?_
              | fail
          exact RetK.pure (by simp only [rs8, rsb, vcb, ↓evSo_some, ↓reduceIte, reduceCtorEq, seval]) (by (simp only [rs8, rsb, vcb, ↓evSo_some, ↓reduceIte, reduceCtorEq, seval, enb, vcb, ↓evSo_some, ↓reduceIte, reduceCtorEq, seval]) <;> (first | simp))
        · have d3 : (e != 0) = true := by rw [bne_iff_ne]; exact he
          simp only [b1, hta, d3, ↓impFT, ↓impTF, vcb, ↓evSo_some, ↓reduceIte, reduceCtorEq, seval]
          repeat' first
              | (first
                  | refine TR.p hP (by first | exact lAlive) (by repeat' first | exact trivial | (intro _; assumption) | apply And.intro) ?_
                  | refine TR.gp hP rfl (fun _ => by first | exact lAlive) (fun _ => by repeat' first | exact trivial | (intro _; assumption) | apply And.intro) ?_
                  | refine TR.pv hP rfl (by first | exact lAlive) trivial (by repeat' first | exact trivial | (intro _; assumption) | apply And.intro) ?_
                 try simp only [d3, ↓impFT, ↓impTF, vcb, ↓evSo_some, ↓reduceIte, reduceCtorEq, seval])
              | refine And.intro (fun h => ?_) (fun h => ?_)
              | refine And.intro (by first | omega | (simp only [maxLen, decide_eq_true_eq, decide_eq_false_iff_not] at *; omega)) ?_
              | (refine TR.aslO rfl rfl rfl rfl trivial (Nat.le_of_ble_eq_true rfl) ?_
                 try simp only [d3, ↓impFT, ↓impTF, vcb, ↓evSo_some, ↓reduceIte, reduceCtorEq, seval])
              | refine And.intro trivial ?_
              | refine And.intro rfl ?_
              | fail
          all_goals exact RetK.pure (by simp only [rs8, rsb, vcb, ↓evSo_some, ↓reduceIte, reduceCtorEq, seval]) (by (simp only [rs8, rsb, vcb, ↓evSo_some, ↓reduceIte, reduceCtorEq, seval, enb, vcb, ↓evSo_some, ↓reduceIte, reduceCtorEq, seval]) <;> (first | simp))
  · by_cases h1 : l.length ≤ 150
    · have e1 : decide (l.length ≤ 150) = true := decide_eq_true h1
      have e2 : ((l.length : Int) == 0) = true := by rw [beq_iff_eq]; omega
      rw [e1] at c0
      simp only [slX] at c0
      refine ctr_pure Try.func8 ok8 rfl cc8 cr8 Try.ntmps8 (by simp) rfl rfl ?_; intro c hP hfn; simp only [kc8, vT, cT, slX, e2, ↓impFT, ↓impTF, vcb, ↓evSo_some, ↓reduceIte, reduceCtorEq, seval]
      repeat' first
          | (first
              | refine TR.p hP (by first | exact c0 | exact lAlive) (by repeat' first | exact trivial | (intro _; assumption) | apply And.intro) ?_
              | refine TR.gp hP rfl (fun _ => by first | exact c0 | exact lAlive) (fun _ => by repeat' first | exact trivial | (intro _; assumption) | apply And.intro) ?_
              | refine TR.pv hP rfl (by first | exact c0 | exact lAlive) trivial (by repeat' first | exact trivial | (intro _; assumption) | apply And.intro) ?_
             try simp only [e2, ↓impFT, ↓impTF, vcb, ↓evSo_some, ↓reduceIte, reduceCtorEq, seval])
          | refine And.intro (fun h => ?_) (fun h => ?_)
          | refine And.intro (by first | omega | (simp only [maxLen, decide_eq_true_eq, decide_eq_false_iff_not] at *; omega)) ?_
          | (refine TR.aslO rfl rfl rfl rfl trivial (Nat.le_of_ble_eq_true rfl) ?_
             try simp only [e2, ↓impFT, ↓impTF, vcb, ↓evSo_some, ↓reduceIte, reduceCtorEq, seval])
          | refine And.intro trivial ?_
          | refine And.intro rfl ?_
          | fail
      exact RetK.pure (by simp only [rs8, rsb, vcb, ↓evSo_some, ↓reduceIte, reduceCtorEq, seval]) (by (simp only [rs8, rsb, vcb, ↓evSo_some, ↓reduceIte, reduceCtorEq, seval, enb, vcb, ↓evSo_some, ↓reduceIte, reduceCtorEq, seval]) <;> (first | simp))
    · have e1 : decide (l.length ≤ 150) = false := decide_eq_false h1
      rw [e1] at c0
      simp only [slX] at c0
      refine ctr_pure Try.func8 ok8 rfl cc8 cr8 Try.ntmps8 (by simp) rfl rfl ?_; intro c hP hfn; simp only [kc8, vT, cT, slX, ↓impFT, ↓impTF, vcb, ↓evSo_some, ↓reduceIte, reduceCtorEq, seval]
      repeat' first
          | (first
              | refine TR.p hP (by first | exact c0 | exact lAlive) (by repeat' first | exact trivial | (intro _; assumption) | apply And.intro) ?_
              | refine TR.gp hP rfl (fun _ => by first | exact c0 | exact lAlive) (fun _ => by repeat' first | exact trivial | (intro _; assumption) | apply And.intro) ?_
              | refine TR.pv hP rfl (by first | exact c0 | exact lAlive) trivial (by repeat' first | exact trivial | (intro _; assumption) | apply And.intro) ?_
             try simp only [↓impFT, ↓impTF, vcb, ↓evSo_some, ↓reduceIte, reduceCtorEq, seval])
          | refine And.intro (fun h => ?_) (fun h => ?_)
          | refine And.intro (by first | omega | (simp only [maxLen, decide_eq_true_eq, decide_eq_false_iff_not] at *; omega)) ?_
          | (refine TR.aslO rfl rfl rfl rfl trivial (Nat.le_of_ble_eq_true rfl) ?_
             try simp only [↓impFT, ↓impTF, vcb, ↓evSo_some, ↓reduceIte, reduceCtorEq, seval])
          | refine And.intro trivial ?_
          | refine And.intro rfl ?_
          | fail
      exact RetK.pure (by simp only [rs8, rsb, vcb, ↓evSo_some, ↓reduceIte, reduceCtorEq, seval]) (by (simp only [rs8, rsb, vcb, ↓evSo_some, ↓reduceIte, reduceCtorEq, seval, enb, vcb, ↓evSo_some, ↓reduceIte, reduceCtorEq, seval]) <;> (first | simp))
end Go.Proofs.Ytkifajabiggfmaa
end
section
set_option linter.unusedSimpArgs false
set_option linter.unusedVariables false
namespace Go.Proofs.Ytkifajabiggfmaa
set_option linter.unusedSimpArgs false
set_option linter.unusedVariables false
open Go.ChangeShapes Go.WideShapes Go.ChangeAt Go.RowKit Go.Bx
set_option maxRecDepth 100000
theorem eventOne_lifted (os : Os) (started : os.Started) (H : Type) (enc : TypeId × Value → H) :
    ReturnsInHanded {} Try.checked os 8 .any (Rows.eventOneSpec.pre6 enc Try.prog Try.f8 Rows.eventOneRow.domain false) (Rows.eventOneSpec.post enc Try.prog Try.f8 false true false false) := by
  refine returnsInHanded_of_change (C := Try.checked) Try.own started (by kernel_rfl) Try.func8
    (ChangeSpec.witness6 (enc := enc) (C := Try.checked) false ⟨#[], #[.agg #[.int .i64 0, .int .i64 0, .int .i64 0, .int .i64 0, .int .i64 0, .int .i64 0, .int .i64 0, .int .i64 0, .int .i64 0], .slice none 0 0], []⟩ 8 (by kernel_rfl) (by kernel_rfl) (by kernel_rfl) (by kernel_rfl)) ?_
  intro W base args ds gs before hval hW _ _
  refine law_calls (tb := 4) Try.laidOut (by kernel_rfl) (by kernel_rfl) Try.underlying4 rfl ?_ ?_ W base args ds gs before hval hW
  · intro ds hd
    match ds, hd with
    | [_, _], _ => rfl
  · intro W base args ds p hval hA
    rw [show Try.f8.params.toList = [36, 22] by kernel_rfl] at hA
    obtain ⟨v0, v1, d0, d1, p0, p1, rfl, rfl, _, h0, h1⟩ := trodAll_two hA
    obtain ⟨t, tk, r0⟩ := treaty_reads.agg (by kernel_rfl) (hval 0 36 v0 rfl rfl) h0
    obtain ⟨l, lk, r1⟩ := losses_reads.cell (by kernel_rfl) (hval 1 22 v1 rfl rfl) h1
    exact ⟨[vT t, .d (slX l)], rfl, rel2 r0 r1, lOne t l lk.1⟩
theorem eventOne_holds : Rows.EventOneSaid :=
  OpenClaim.holds_of_wide 8 Try.f8 rfl rfl rfl rfl rfl rfl rfl ⟨rfl, rfl, rfl, rfl, rfl⟩ rfl rfl rfl rfl rfl (by kernel_rfl) Try.func8 (by kernel_rfl)
    (of_decide_eq_true (by kernel_rfl)) (by unfold Func.isWrapper; first | (rw [if_pos (by decide +kernel)]; kernel_rfl) | (rw [if_neg (by decide +kernel)]; exact ⟨rfl, rfl⟩))
    (fun os started H enc _ => eventOne_lifted os started H enc)
end Go.Proofs.Ytkifajabiggfmaa
end
