import Derived.Test.YtkifajabiggfmaaXE9
section
set_option linter.unusedSimpArgs false
set_option linter.unusedVariables false
namespace Go.Proofs.Ytkifajabiggfmaa
set_option linter.unusedSimpArgs false
set_option linter.unusedVariables false
open Go.Bx
set_option maxRecDepth 10000
theorem split_ok2 {m : Int} (l : List Int) (h0 : 0 ≤ m) : (∀ d, d ∈ (splitR m l).1 → 0 ≤ d) ∧ (splitR m l).1.sum ≤ m := by
  by_cases h : (splitR m l).2 = 0
  · have ok := split_inv h
    have e := split_ok ok
    have hS : 0 < l.sum := ok.S0
    rw [e]
    refine ⟨fun d hd => ?_, ?_⟩
    · obtain ⟨k, hk⟩ := List.mem_iff_getElem?.1 hd
      have hkl : k < l.length := by have := (List.getElem?_eq_some_iff.1 hk).1; simpa [dealQ_len] using this
      have h2 := dealQ_at (m := m) (S := l.sum) hkl
      have h3 := take_sum hkl
      have hm : l.getD k 0 ∈ l := by rw [List.getD_eq_getElem?_getD, List.getElem?_eq_getElem hkl]; exact List.getElem_mem hkl
      have h4 := ok.nn _ hm
      have h5 := quo_le (s := (l.take k).sum) (t := (l.take (k + 1)).sum) h0 hS (by omega)
      rw [List.getD_eq_getElem?_getD, hk, Option.getD_some] at h2
      omega
    · have h2 := dealQ_take m l.sum l.length l 0
      rw [List.take_of_length_le (by rw [dealQ_len]; exact Nat.le_refl _), List.take_length] at h2
      rw [h2]
      have : m * (0 + l.sum) / l.sum = m := by rw [Int.zero_add]; exact Int.mul_ediv_cancel _ (by omega)
      simp only [this]; simp
  · rw [split_bad h]; simpa using h0
theorem sum_set {d : Int} (h0 : 0 ≤ d) : ∀ (out : List Int) (i : Nat), 0 ≤ out.getD i 0 → (out.set i d).sum ≤ out.sum + d
  | [], i, _ => by simpa using h0
  | a :: r, 0, h => by simp only [List.getD_cons_zero] at h; simp only [List.set_cons_zero, List.sum_cons]; omega
  | a :: r, i + 1, h => by
    have := sum_set h0 r i (by simpa using h)
    simp only [List.set_cons_succ, List.sum_cons]; omega
theorem putAll_ok (P : Nat → Prop) : ∀ (g ds out : List Int), (∀ d, d ∈ ds → 0 ≤ d) → (∀ i, i ∈ g → P i.toNat) → (∀ j, 0 ≤ out.getD j 0 ∧ (¬ P j → out.getD j 0 = 0)) →
    (∀ j, 0 ≤ (putAll out g ds).getD j 0 ∧ (¬ P j → (putAll out g ds).getD j 0 = 0)) ∧ (putAll out g ds).sum ≤ out.sum + ds.sum
  | [], ds, out, hd, _, ho => by
    refine ⟨by simpa [putAll] using ho, ?_⟩
    have := sum_nonneg hd
    simp only [putAll]; omega
  | i :: g, [], out, _, _, ho => ⟨by simpa [putAll] using ho, by simp [putAll]⟩
  | i :: g, d :: ds, out, hd, hg, ho => by
    rw [putAll]
    have h0 := hd d (by simp)
    have hs := sum_set h0 out i.toNat (ho i.toNat).1
    obtain ⟨g1, g2⟩ := putAll_ok P g ds (out.set i.toNat d) (fun x hx => hd x (by simp [hx])) (fun x hx => hg x (by simp [hx])) (fun j => by
      by_cases e : i.toNat = j
      · subst e
        have hP := hg i (by simp)
        refine ⟨?_, fun h => absurd hP h⟩
        by_cases hl : i.toNat < out.length
        · rw [List.getD_eq_getElem?_getD, List.getElem?_set_self hl]; exact h0
        · rw [List.getD_eq_getElem?_getD, List.getElem?_eq_none (by simp; omega)]; simp
      · rw [List.getD_eq_getElem?_getD, List.getElem?_set_ne e, ← List.getD_eq_getElem?_getD]; exact ho j)
    refine ⟨g1, ?_⟩
    simp only [List.sum_cons]; omega
theorem bearsF_ok (t : Tr) (l : List Ls) (P : Nat → Prop) (hl : l.length ≤ 2000) (hx : ∀ x, x ∈ l → lossX x = true) : ∀ (G : List (List Int)) (left : Int) (out : List Int), 0 ≤ left →
    (∀ g, g ∈ G → g.length ≤ l.length ∧ ∀ i, i ∈ g → 0 ≤ i ∧ i < (l.length : Int) ∧ P i.toNat) → (∀ j, 0 ≤ out.getD j 0 ∧ (¬ P j → out.getD j 0 = 0)) →
    (∀ j, 0 ≤ (bearsF t l left G out).getD j 0 ∧ (¬ P j → (bearsF t l left G out).getD j 0 = 0)) ∧ (bearsF t l left G out).sum ≤ out.sum + left ∧ (bearsF t l left G out).length = out.length
  | [], left, out, h0, _, ho => ⟨by simpa [bearsF] using ho, by simp only [bearsF]; omega, rfl⟩
  | g :: G, left, out, h0, hG, ho => by
    have hg := hG g (by simp)
    have ha := amts_bounds hx (g := g) (fun i hi => ⟨(hg.2 i hi).1, (hg.2 i hi).2.1⟩)
    have hs : (amtsT l g).sum ≤ 1000000000000000 * 2000 := by
      have : (g.length : Int) ≤ 2000 := by have := hg.1; omega
      have h2 : (1000000000000000 : Int) * g.length ≤ 1000000000000000 * 2000 := by omega
      omega
    have hp := part_nn t (amt := (amtsT l g).sum) ha.2.1 (by omega)
    obtain ⟨d1, d2⟩ := split_ok2 (m := min left (partT t (amtsT l g).sum)) (amtsT l g) (by omega)
    obtain ⟨p1, p2⟩ := putAll_ok P g _ out d1 (fun i hi => (hg.2 i hi).2.2) ho
    obtain ⟨f1, f2, f3⟩ := bearsF_ok t l P hl hx G (left - min left (partT t (amtsT l g).sum)) _ (by omega) (fun g' hg' => hG g' (by simp [hg'])) p1
    rw [bearsF]
    exact ⟨f1, by omega, by rw [f3, putAll_len]⟩
theorem evRun_takes (t : Tr) (all : List Ls) : ∀ (l : List Ls) (k : Nat) (s : EvS), all.drop k = l → (∀ g, g ∈ s.G → ∀ i, i ∈ g → takesT t (all.getD i.toNat default) = true) → ∀ g, g ∈ (evRun t k l s).G → ∀ i, i ∈ g → takesT t (all.getD i.toNat default) = true
  | [], _, s, _, hs => by simpa [evRun] using hs
  | x :: r, k, s, hd, hs => by
    rw [evRun]
    have hk : k < all.length := by
      by_cases h : k < all.length
      · exact h
      · rw [List.drop_eq_nil_of_le (by omega)] at hd; cases hd
    obtain ⟨x', hd', hg, -, -⟩ := drop_at hk
    rw [hd] at hd'
    cases hd'
    refine evRun_takes t all _ (k + 1) _ rfl ?_
    unfold evStep
    split
    · rename_i ht
      have hkx : takesT t (all.getD ((k : Int)).toNat default) = true := by rw [Int.toNat_natCast, hg]; exact ht
      split
      · intro g hg' i hi
        rcases List.mem_or_eq_of_mem_set hg' with h1 | h1
        · exact hs g h1 i hi
        · subst h1
          rcases List.mem_append.1 hi with h2 | h2
          · by_cases hl : (s.kn x.ev - 1).toNat < s.G.length
            · rw [List.getD_eq_getElem?_getD, List.getElem?_eq_getElem hl] at h2
              exact hs _ (List.getElem_mem hl) i h2
            · rw [List.getD_eq_getElem?_getD, List.getElem?_eq_none (by omega)] at h2; simp at h2
          · simp at h2; subst h2; exact hkx
      · intro g hg' i hi
        rcases List.mem_append.1 hg' with h1 | h1
        · exact hs g h1 i hi
        · simp at h1; subst h1; simp at hi; subst hi; exact hkx
    · exact hs
theorem split_le {m : Int} {l : List Int} (h0 : 0 ≤ m) (hm : m ≤ l.sum) (q : Nat) : (splitR m l).1.getD q 0 ≤ max 0 (l.getD q 0) := by
  by_cases h : (splitR m l).2 = 0
  · have ok := split_inv h
    have hS : 0 < l.sum := ok.S0
    rw [split_ok ok]
    simp only
    by_cases hql : q < l.length
    · rw [dealQ_at hql]
      have h3 := take_sum hql
      have hmm : l.getD q 0 ∈ l := by rw [List.getD_eq_getElem?_getD, List.getElem?_eq_getElem hql]; exact List.getElem_mem hql
      have h4 := ok.nn _ hmm
      generalize l.getD q 0 = p at *
      generalize (l.take q).sum = n at *
      rw [h3]
      have h5 : m * (n + p) / l.sum ≤ (m * n + l.sum * p) / l.sum := Int.ediv_le_ediv hS (by
        rw [Int.mul_add]
        have := Int.mul_le_mul_of_nonneg_right hm h4
        omega)
      rw [Int.add_mul_ediv_left _ _ (by omega)] at h5
      omega
    · rw [List.getD_eq_getElem?_getD, List.getElem?_eq_none (by rw [dealQ_len]; omega)]
      simp; omega
  · rw [split_bad h]; simp; omega
theorem putAll_le (B : Nat → Int) : ∀ (g ds out : List Int), (∀ q, q < g.length → q < ds.length → ds.getD q 0 ≤ B (g.getD q 0).toNat) → (∀ j, j < out.length → out.getD j 0 ≤ B j) → ∀ j, j < out.length → (putAll out g ds).getD j 0 ≤ B j
  | [], ds, out, _, ho => by simpa [putAll] using ho
  | i :: g, [], out, _, ho => by simpa [putAll] using ho
  | i :: g, d :: ds, out, hd, ho => by
    rw [putAll]
    have h0 := hd 0 (by simp) (by simp)
    simp only [List.getD_cons_zero] at h0
    intro j hj
    refine putAll_le B g ds (out.set i.toNat d) (fun q h1 h2 => by simpa using hd (q + 1) (by simpa using h1) (by simpa using h2)) (fun j hj => ?_) j (by simpa using hj)
    rw [List.length_set] at hj
    by_cases e : i.toNat = j
    · subst e
      rw [List.getD_eq_getElem?_getD, List.getElem?_set_self hj]; exact h0
    · rw [List.getD_eq_getElem?_getD, List.getElem?_set_ne e, ← List.getD_eq_getElem?_getD]; exact ho j hj
theorem bearsF_le (t : Tr) (l : List Ls) (hl : l.length ≤ 2000) (hx : ∀ x, x ∈ l → lossX x = true) : ∀ (G : List (List Int)) (left : Int) (out : List Int), 0 ≤ left → out.length = l.length →
    (∀ g, g ∈ G → g.length ≤ l.length ∧ ∀ i, i ∈ g → 0 ≤ i ∧ i < (l.length : Int)) → (∀ j, j < out.length → out.getD j 0 ≤ (l.getD j default).amt) → ∀ j, j < out.length → (bearsF t l left G out).getD j 0 ≤ (l.getD j default).amt
  | [], _, out, _, _, _, ho => by simpa [bearsF] using ho
  | g :: G, left, out, h0, hol, hG, ho => by
    have hg := hG g (by simp)
    have ha := amts_bounds hx (g := g) hg.2
    have hs : (amtsT l g).sum ≤ 1000000000000000 * 2000 := by
      have : (g.length : Int) ≤ 2000 := by have := hg.1; omega
      have h2 : (1000000000000000 : Int) * g.length ≤ 1000000000000000 * 2000 := by omega
      omega
    have hp := part_nn t (amt := (amtsT l g).sum) ha.2.1 (by omega)
    rw [bearsF]
    intro j hj
    refine bearsF_le t l hl hx G _ _ (by omega) (by rw [putAll_len]; exact hol) (fun g' hg' => hG g' (by simp [hg'])) (fun j hj => ?_) j (by rw [putAll_len]; exact hj)
    rw [putAll_len] at hj
    refine putAll_le (fun j => (l.getD j default).amt) g _ out (fun q h1 h2 => ?_) ho j hj
    by_cases hs1 : (amtsT l g).sum ≤ 1000000000000000000
    · have hpb := part_bounds t ha.2.1 hs1
      have h3 := split_le (m := min left (partT t (amtsT l g).sum)) (l := amtsT l g) (by omega) (by omega) q
      have h4 : (amtsT l g).getD q 0 = (l.getD (g.getD q 0).toNat default).amt := by
        rw [amtsT, List.getD_eq_getElem?_getD, List.getElem?_map, List.getElem?_eq_getElem h1, List.getD_eq_getElem?_getD (l := g), List.getElem?_eq_getElem h1]; rfl
      have h5 : 0 ≤ (amtsT l g).getD q 0 := by
        have : (amtsT l g).getD q 0 ∈ amtsT l g := by
          have hq : q < (amtsT l g).length := by rw [amtsT, List.length_map]; exact h1
          rw [List.getD_eq_getElem?_getD, List.getElem?_eq_getElem hq]; exact List.getElem_mem hq
        exact (ha.1 _ this).1
      omega
    · 
      have h6 : partT t (amtsT l g).sum ≤ (amtsT l g).sum := by
        unfold partT
        split
        · omega
        · rename_i h
          have h' : highT t = true ∧ ¬ (amtsT l g).sum ≤ t.att := by simpa using h
          have hb := high_bounds h'.1
          omega
      have h3 := split_le (m := min left (partT t (amtsT l g).sum)) (l := amtsT l g) (by omega) (by omega) q
      have h4 : (amtsT l g).getD q 0 = (l.getD (g.getD q 0).toNat default).amt := by
        rw [amtsT, List.getD_eq_getElem?_getD, List.getElem?_map, List.getElem?_eq_getElem h1, List.getD_eq_getElem?_getD (l := g), List.getElem?_eq_getElem h1]; rfl
      have h5 : 0 ≤ (amtsT l g).getD q 0 := by
        have : (amtsT l g).getD q 0 ∈ amtsT l g := by
          have hq : q < (amtsT l g).length := by rw [amtsT, List.length_map]; exact h1
          rw [List.getD_eq_getElem?_getD, List.getElem?_eq_getElem hq]; exact List.getElem_mem hq
        exact (ha.1 _ this).1
      omega
structure MOk (t : Tr) (l : List Ls) (b : List Int) : Prop where
  len : b.length = l.length
  bd : ∀ j, j < l.length → 0 ≤ b.getD j 0 ∧ b.getD j 0 ≤ (l.getD j default).amt ∧ (0 < b.getD j 0 → takesT t (l.getD j default) = true)
  sum : b.sum ≤ roomT t
theorem bearsE_bad {t : Tr} {l : List Ls} (h : (bearsE t l).2 ≠ 0) : (bearsE t l).1 = [] := by
  unfold bearsE at h ⊢
  split at h
  · rename_i h1; rw [if_pos h1]
  · rename_i h1
    rw [if_neg h1]
    split at h
    · rename_i h2; rw [if_pos h2]
    · simp at h
theorem bearsE_inv {t : Tr} {l : List Ls} (h : (bearsE t l).2 = 0) : (t.kind = 3 ∧ rightT t = true) ∧ (∀ x, x ∈ l → lossX x = true) ∧ l.length ≤ 2000 ∧ bearsE t l = (bearsF t l (roomT t) (eventsT t l) (List.replicate l.length 0), 0) := by
  unfold bearsE at h ⊢
  split at h
  · simp at h
  · rename_i h1
    rw [if_neg h1]
    split at h
    · simp at h
    · rename_i h2
      rw [if_neg h2]
      simp only [Bool.or_eq_true, not_or, Bool.not_eq_true] at h1
      refine ⟨⟨by simpa using h1.1.1, by simpa using h1.1.2⟩, fun x hx => ?_, by omega, rfl⟩
      have := List.any_eq_false.1 h1.2 x hx
      simpa using this
theorem bearsE_ok {t : Tr} {l : List Ls} (h : (bearsE t l).2 = 0) : MOk t l (bearsE t l).1 := by
  obtain ⟨-, hx, h2, e⟩ := bearsE_inv h
  rw [e]
  have hroom := (roomT_eq t).2
  obtain ⟨e1, e2, e3⟩ := events_ok t l
  have e4 := evRun_takes t l l 0 ⟨[], fun _ => 0⟩ rfl (by simp)
  have hz : ∀ (n j : Nat), (List.replicate n (0 : Int)).getD j 0 = 0 := fun n j => by
    rw [List.getD_eq_getElem?_getD, List.getElem?_replicate]; split <;> rfl
  obtain ⟨f1, f2, f3⟩ := bearsF_ok t l (fun j => takesT t (l.getD j default) = true) h2 hx (eventsT t l) (roomT t) (List.replicate l.length 0) (by omega)
    (fun g hg => ⟨(e2 g hg).2, fun i hi => ⟨(e3 g hg i hi).1, (e3 g hg i hi).2, e4 g hg i hi⟩⟩) (fun j => by rw [hz]; simp)
  have f4 := bearsF_le t l h2 hx (eventsT t l) (roomT t) (List.replicate l.length 0) (by omega) (by simp) (fun g hg => ⟨(e2 g hg).2, fun i hi => e3 g hg i hi⟩) (fun j hj => by
    rw [hz]
    rw [List.length_replicate] at hj
    have : l.getD j default ∈ l := by rw [List.getD_eq_getElem?_getD, List.getElem?_eq_getElem hj]; exact List.getElem_mem hj
    exact (lossX_iff.1 (hx _ this)).2.2.2.2.1)
  refine ⟨by rw [f3]; simp, fun j hj => ⟨(f1 j).1, f4 j (by simpa using hj), fun hp => ?_⟩, ?_⟩
  · cases hh : takesT t (l.getD j default) with
    | true => rfl
    | false =>
      have hp' : 0 < (bearsF t l (roomT t) (eventsT t l) (List.replicate l.length 0)).getD j 0 := hp
      have := (f1 j).2 (by rw [hh]; simp); omega
  · have : (List.replicate l.length (0 : Int)).sum = 0 := by simp
    simp only at f2 ⊢; omega
end Go.Proofs.Ytkifajabiggfmaa
end
section
set_option linter.unusedSimpArgs false
set_option linter.unusedVariables false
namespace Go.Proofs.Ytkifajabiggfmaa
set_option linter.unusedSimpArgs false
set_option linter.unusedVariables false
open Go.Bx
set_option maxRecDepth 10000
set_option maxHeartbeats 4000000 in
theorem lMost (t : Tr) (l : List Ls) (hl9 : l.length ≤ 9223372036854775807) : Ctr Try.prog 7 [vT t, .d (slX l)] [] (.d (.bool true)) [] [] := by
  have c0 := few l
  by_cases hl : l.length ≤ 150
  · have e1 : decide (l.length ≤ 150) = true := decide_eq_true hl
    rw [e1] at c0
    have c1 := sBears t l (by omega)
    have c2 := s20 t
    simp only [vT, cT, slX, slK] at c0 c1 c2
    have h2k : (bearsE t l).1.length ≤ 150 := by have := bearsE_len t l; omega
    by_cases h0 : (bearsE t l).2 = 0
    · have ok := bearsE_ok h0
      have hroom := (roomT_eq t).2
      obtain ⟨hX, -, -⟩ := (bearsE_inv h0).2
      rw [h0] at c1
      generalize (bearsE t l).1 = b at *
      have hbl := ok.len
      have d1 : ((b.length : Int) != (l.length : Int)) = false := by rw [bne_eq_false_iff_eq]; omega
      have d2 : ((0 : Int) != 0) = false := rfl
      refine ctr_pure Try.func7 ok7 rfl cc7 cr7 Try.ntmps7 (by simp) rfl rfl ?_; intro c hP hfn; simp only [kc7, vT, cT, slX, ↓impFT, ↓impTF, vcb, ↓evSo_some, ↓reduceIte, reduceCtorEq, seval]
      repeat' first
          | (first
              | refine TR.p hP (by first | exact c0 | exact c1) (by repeat' first | exact trivial | (intro _; assumption) | apply And.intro) ?_
              | refine TR.gp hP rfl (fun _ => by first | exact c0 | exact c1) (fun _ => by repeat' first | exact trivial | (intro _; assumption) | apply And.intro) ?_
              | refine TR.pv hP rfl (by first | exact c0 | exact c1) trivial (by repeat' first | exact trivial | (intro _; assumption) | apply And.intro) ?_
             try simp only [d1, d2, ↓impFT, ↓impTF, vcb, ↓evSo_some, ↓reduceIte, reduceCtorEq, seval])
          | refine And.intro (fun h => ?_) (fun h => ?_)
          | refine And.intro (by first | omega | (simp only [maxLen, decide_eq_true_eq, decide_eq_false_iff_not] at *; omega)) ?_
          | (refine TR.aslO rfl rfl rfl rfl trivial (Nat.le_of_ble_eq_true rfl) ?_
             try simp only [d1, d2, ↓impFT, ↓impTF, vcb, ↓evSo_some, ↓reduceIte, reduceCtorEq, seval])
          | refine And.intro trivial ?_
          | refine And.intro rfl ?_
          | fail
      have hnn : ∀ x, x ∈ b → 0 ≤ x := fun x hx => by
        obtain ⟨k, hk⟩ := List.mem_iff_getElem?.1 hx
        have hkl := (List.getElem?_eq_some_iff.1 hk).1
        have := (ok.bd k (by omega)).1
        rwa [List.getD_eq_getElem?_getD, hk] at this
      have hsum := ok.sum
      refine vcC.loop (X := Nat) (fun k => ⟨[(1, .d (slX l)), (2, .own 2 0), (7, .d (.int .i64 (b.take k).sum)), (39, .d (slK .i64 b)), (40, .d (.int .i64 b.length)), (41, .d (.int .i64 k))], [(2, .fix (cT t))], [2]⟩)
        (fun k => k ≤ b.length) (fun k => b.length - k) 0 (Nat.zero_le _) (Wk.of _ hfn rfl (by simp only [slX, List.take_zero, List.sum_nil, enb, vcb, ↓evSo_some, ↓reduceIte, reduceCtorEq, seval]) (by simp only [cT, enb, vcb, ↓evSo_some, ↓reduceIte, reduceCtorEq, seval])) ?_
      rintro k hk
      by_cases hlt : k < b.length
      · obtain ⟨m, hd, hg, hgm, hat⟩ := drop_at hlt
        obtain ⟨x, -, hx, hxm, -⟩ := drop_at (l := l) (k := k) (by omega)
        have hb := ok.bd k (by omega)
        rw [hx, show b.getD k 0 = m from hg 0] at hb
        have hxl := lossX_iff.1 (hX x hxm)
        have ct := s23 t x
        simp only [vT, cT, vX, cX'] at ct
        have hs := sum_take_le hnn (k + 1)
        have hs2 : (b.take (k + 1)).sum = (b.take k).sum + m := by rw [List.take_add_one, hat]; simp
        have ewk : IntKind.i64.wrap ((k : Int) + 1) = ((k + 1 : Nat) : Int) := wS (by omega)
        have ews : IntKind.i64.wrap ((b.take k).sum + m) = (b.take (k + 1)).sum := by rw [hs2]; exact wI (by omega)
        have b0 : decide ((k : Int) < (b.length : Int)) = true := decide_eq_true (by omega)
        have b1 : decide (m < 0) = false := decide_eq_false (by omega)
        have b2 : decide (m > x.amt) = false := decide_eq_false (by omega)
        by_cases hm : 0 < m
        · have b3 : decide (m > 0) = true := decide_eq_true hm
          rw [hb.2.2 hm] at ct
          simp only [slX, cT, hg, hx, b0, b1, b2, b3, ews, ewk, ↓impFT, ↓impTF, vcb, ↓evSo_some, ↓reduceIte, reduceCtorEq, seval]
          repeat' first
              | (first
                  | refine TR.p hP (by first | exact ct) (by repeat' first | exact trivial | (intro _; assumption) | apply And.intro) ?_
                  | refine TR.gp hP rfl (fun _ => by first | exact ct) (fun _ => by repeat' first | exact trivial | (intro _; assumption) | apply And.intro) ?_
                  | refine TR.pv hP rfl (by first | exact ct) trivial (by repeat' first | exact trivial | (intro _; assumption) | apply And.intro) ?_
                 try simp only [hg, hx, b0, b1, b2, b3, ews, ewk, ↓impFT, ↓impTF, vcb, ↓evSo_some, ↓reduceIte, reduceCtorEq, seval])
              | refine And.intro (fun h => ?_) (fun h => ?_)
              | refine And.intro (by first | omega | (simp only [maxLen, decide_eq_true_eq, decide_eq_false_iff_not] at *; omega)) ?_
              | (refine TR.aslO rfl rfl rfl rfl trivial (Nat.le_of_ble_eq_true rfl) ?_
                 try simp only [hg, hx, b0, b1, b2, b3, ews, ewk, ↓impFT, ↓impTF, vcb, ↓evSo_some, ↓reduceIte, reduceCtorEq, seval])
              | refine And.intro trivial ?_
              | refine And.intro rfl ?_
              | fail
          exact lopK.on (k + 1) hlt (by omega) (Wk.of _ hfn rfl (by simp only [slX, enb, vcb, ↓evSo_some, ↓reduceIte, reduceCtorEq, seval]) (by simp only [cT, enb, vcb, ↓evSo_some, ↓reduceIte, reduceCtorEq, seval]))
        · have b3 : decide (m > 0) = false := decide_eq_false hm
          simp only [slX, cT, hg, hx, b0, b1, b2, b3, ews, ewk, ↓impFT, ↓impTF, vcb, ↓evSo_some, ↓reduceIte, reduceCtorEq, seval]
          repeat' first
              | (first
                  | refine TR.p hP (by first | exact ct) (by repeat' first | exact trivial | (intro _; assumption) | apply And.intro) ?_
                  | refine TR.gp hP rfl (fun _ => by first | exact ct) (fun _ => by repeat' first | exact trivial | (intro _; assumption) | apply And.intro) ?_
                  | refine TR.pv hP rfl (by first | exact ct) trivial (by repeat' first | exact trivial | (intro _; assumption) | apply And.intro) ?_
                 try simp only [hg, hx, b0, b1, b2, b3, ews, ewk, ↓impFT, ↓impTF, vcb, ↓evSo_some, ↓reduceIte, reduceCtorEq, seval])
              | refine And.intro (fun h => ?_) (fun h => ?_)
              | refine And.intro (by first | omega | (simp only [maxLen, decide_eq_true_eq, decide_eq_false_iff_not] at *; omega)) ?_
              | (refine TR.aslO rfl rfl rfl rfl trivial (Nat.le_of_ble_eq_true rfl) ?_
                 try simp only [hg, hx, b0, b1, b2, b3, ews, ewk, ↓impFT, ↓impTF, vcb, ↓evSo_some, ↓reduceIte, reduceCtorEq, seval])
              | refine And.intro trivial ?_
              | refine And.intro rfl ?_
              | fail
          exact lopK.on (k + 1) hlt (by omega) (Wk.of _ hfn rfl (by simp only [slX, enb, vcb, ↓evSo_some, ↓reduceIte, reduceCtorEq, seval]) (by simp only [cT, enb, vcb, ↓evSo_some, ↓reduceIte, reduceCtorEq, seval]))
      · have hkl : k = b.length := by omega
        have b0 : decide ((k : Int) < (b.length : Int)) = false := decide_eq_false (by omega)
        have htk : (b.take k).sum = b.sum := by rw [hkl, List.take_length]
        have hfin : decide (b.sum ≤ roomT t) = true := decide_eq_true hsum
        simp only [slX, cT, b0, htk, ↓impFT, ↓impTF, vcb, ↓evSo_some, ↓reduceIte, reduceCtorEq, seval]
        repeat' first
            | (first
                | refine TR.p hP (by first | exact lAlive | exact c2) (by repeat' first | exact trivial | (intro _; assumption) | apply And.intro) ?_
                | refine TR.gp hP rfl (fun _ => by first | exact lAlive | exact c2) (fun _ => by repeat' first | exact trivial | (intro _; assumption) | apply And.intro) ?_
                | refine TR.pv hP rfl (by first | exact lAlive | exact c2) trivial (by repeat' first | exact trivial | (intro _; assumption) | apply And.intro) ?_
               try simp only [hfin, vcb, ↓evSo_some, ↓reduceIte, reduceCtorEq, seval])
            | refine And.intro (fun h => ?_) (fun h => ?_)
            | refine And.intro (by first | omega | (simp only [maxLen, decide_eq_true_eq, decide_eq_false_iff_not] at *; omega)) ?_
            | (refine TR.aslO rfl rfl rfl rfl trivial (Nat.le_of_ble_eq_true rfl) ?_
               try simp only [hfin, vcb, ↓evSo_some, ↓reduceIte, reduceCtorEq, seval])
            | refine And.intro trivial ?_
            | refine And.intro rfl ?_
            | fail
        exact RetK.pure (by simp only [rs7, rsb, vcb, ↓evSo_some, ↓reduceIte, reduceCtorEq, seval]) (by (simp only [rs7, rsb, vcb, ↓evSo_some, ↓reduceIte, reduceCtorEq, seval, enb, vcb, ↓evSo_some, ↓reduceIte, reduceCtorEq, seval]) <;> (first | rfl))
    · have hb := bearsE_bad h0
      rw [hb] at c1
      have d1 : ((bearsE t l).2 != 0) = true := by rw [bne_iff_ne]; exact h0
      generalize (bearsE t l).2 = e at *
      refine ctr_pure Try.func7 ok7 rfl cc7 cr7 Try.ntmps7 (by simp) rfl rfl ?_; intro c hP hfn; simp only [kc7, vT, cT, slX, ↓impFT, ↓impTF, vcb, ↓evSo_some, ↓reduceIte, reduceCtorEq, seval]
      repeat' first
          | (first
              | refine TR.p hP (by first | exact c0 | exact c1 | exact lAlive) (by repeat' first | exact trivial | (intro _; assumption) | apply And.intro) ?_
              | refine TR.gp hP rfl (fun _ => by first | exact c0 | exact c1 | exact lAlive) (fun _ => by repeat' first | exact trivial | (intro _; assumption) | apply And.intro) ?_
              | refine TR.pv hP rfl (by first | exact c0 | exact c1 | exact lAlive) trivial (by repeat' first | exact trivial | (intro _; assumption) | apply And.intro) ?_
             try simp only [d1, ↓impFT, ↓impTF, vcb, ↓evSo_some, ↓reduceIte, reduceCtorEq, seval])
          | refine And.intro (fun h => ?_) (fun h => ?_)
          | refine And.intro (by first | omega | (simp only [maxLen, decide_eq_true_eq, decide_eq_false_iff_not] at *; omega)) ?_
          | (refine TR.aslO rfl rfl rfl rfl trivial (Nat.le_of_ble_eq_true rfl) ?_
             try simp only [d1, ↓impFT, ↓impTF, vcb, ↓evSo_some, ↓reduceIte, reduceCtorEq, seval])
          | refine And.intro trivial ?_
          | refine And.intro rfl ?_
          | fail
      all_goals exact RetK.pure (by simp only [rs7, rsb, vcb, ↓evSo_some, ↓reduceIte, reduceCtorEq, seval]) (by (simp only [rs7, rsb, vcb, ↓evSo_some, ↓reduceIte, reduceCtorEq, seval, enb, vcb, ↓evSo_some, ↓reduceIte, reduceCtorEq, seval]) <;> (first | simp))
  · have e1 : decide (l.length ≤ 150) = false := decide_eq_false hl
    rw [e1] at c0
    simp only [slX] at c0
    refine ctr_pure Try.func7 ok7 rfl cc7 cr7 Try.ntmps7 (by simp) rfl rfl ?_; intro c hP hfn; simp only [kc7, vT, cT, slX, vcb, ↓evSo_some, ↓reduceIte, reduceCtorEq, seval]
    repeat' first
        | (first
            | refine TR.p hP (by first | exact c0 | exact lAlive) (by repeat' first | exact trivial | (intro _; assumption) | apply And.intro) ?_
            | refine TR.gp hP rfl (fun _ => by first | exact c0 | exact lAlive) (fun _ => by repeat' first | exact trivial | (intro _; assumption) | apply And.intro) ?_
            | refine TR.pv hP rfl (by first | exact c0 | exact lAlive) trivial (by repeat' first | exact trivial | (intro _; assumption) | apply And.intro) ?_
           try simp only [vcb, ↓evSo_some, ↓reduceIte, reduceCtorEq, seval])
        | refine And.intro (fun h => ?_) (fun h => ?_)
        | refine And.intro (by first | omega | (simp only [maxLen, decide_eq_true_eq, decide_eq_false_iff_not] at *; omega)) ?_
        | (refine TR.aslO rfl rfl rfl rfl trivial (Nat.le_of_ble_eq_true rfl) ?_
           try simp only [vcb, ↓evSo_some, ↓reduceIte, reduceCtorEq, seval])
        | refine And.intro trivial ?_
        | refine And.intro rfl ?_
        | fail
    exact RetK.pure (by simp only [rs7, rsb, vcb, ↓evSo_some, ↓reduceIte, reduceCtorEq, seval]) (by (simp only [rs7, rsb, vcb, ↓evSo_some, ↓reduceIte, reduceCtorEq, seval, enb, vcb, ↓evSo_some, ↓reduceIte, reduceCtorEq, seval]) <;> (first | simp))
end Go.Proofs.Ytkifajabiggfmaa
end
section
set_option linter.unusedSimpArgs false
set_option linter.unusedVariables false
namespace Go.Proofs.Ytkifajabiggfmaa
set_option linter.unusedSimpArgs false
set_option linter.unusedVariables false
open Go.ChangeShapes Go.WideShapes Go.ChangeAt Go.RowKit Go.Bx
set_option maxRecDepth 100000
theorem eventMost_lifted (os : Os) (started : os.Started) (H : Type) (enc : TypeId × Value → H) :
    ReturnsInHanded {} Try.checked os 7 .any (Rows.eventMostSpec.pre6 enc Try.prog Try.f7 Rows.eventMostRow.domain false) (Rows.eventMostSpec.post enc Try.prog Try.f7 false true false false) := by
  refine returnsInHanded_of_change (C := Try.checked) Try.own started (by kernel_rfl) Try.func7
    (ChangeSpec.witness6 (enc := enc) (C := Try.checked) false ⟨#[], #[.agg #[.int .i64 0, .int .i64 0, .int .i64 0, .int .i64 0, .int .i64 0, .int .i64 0, .int .i64 0, .int .i64 0, .int .i64 0], .slice none 0 0], []⟩ 8 (by kernel_rfl) (by kernel_rfl) (by kernel_rfl) (by kernel_rfl)) ?_
  intro W base args ds gs before hval hW _ _
  refine law_calls (tb := 4) Try.laidOut (by kernel_rfl) (by kernel_rfl) Try.underlying4 rfl ?_ ?_ W base args ds gs before hval hW
  · intro ds hd
    match ds, hd with
    | [_, _], _ => rfl
  · intro W base args ds p hval hA
    rw [show Try.f7.params.toList = [36, 22] by kernel_rfl] at hA
    obtain ⟨v0, v1, d0, d1, p0, p1, rfl, rfl, _, h0, h1⟩ := trodAll_two hA
    obtain ⟨t, tk, r0⟩ := treaty_reads.agg (by kernel_rfl) (hval 0 36 v0 rfl rfl) h0
    obtain ⟨l, lk, r1⟩ := losses_reads.cell (by kernel_rfl) (hval 1 22 v1 rfl rfl) h1
    exact ⟨[vT t, .d (slX l)], rfl, rel2 r0 r1, lMost t l lk.1⟩
theorem eventMost_holds : Rows.EventMostSaid :=
  OpenClaim.holds_of_wide 7 Try.f7 rfl rfl rfl rfl rfl rfl rfl ⟨rfl, rfl, rfl, rfl, rfl⟩ rfl rfl rfl rfl rfl (by kernel_rfl) Try.func7 (by kernel_rfl)
    (of_decide_eq_true (by kernel_rfl)) (by unfold Func.isWrapper; first | (rw [if_pos (by decide +kernel)]; kernel_rfl) | (rw [if_neg (by decide +kernel)]; exact ⟨rfl, rfl⟩))
    (fun os started H enc _ => eventMost_lifted os started H enc)
end Go.Proofs.Ytkifajabiggfmaa
end
