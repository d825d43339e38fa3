import Derived.Test.YtkifajabiggfmaaXF8
section
set_option linter.unusedSimpArgs false
set_option linter.unusedVariables false
namespace Go.Proofs.Ytkifajabiggfmaa
set_option linter.unusedSimpArgs false
set_option linter.unusedVariables false
section
variable {X : Type} (d : X) (less : X → X → Bool)
def swp (l : List X) (i j : Nat) : List X := (l.set i (l.getD j d)).set j (l.getD i d)
theorem swp_len (l : List X) (i j : Nat) : (swp d l i j).length = l.length := by simp [swp]
theorem swp_get {l : List X} {i j : Nat} (hi : i < l.length) (hj : j < l.length) (m : Nat) : (swp d l i j).getD m d = if m = j then l.getD i d else if m = i then l.getD j d else l.getD m d := by
  simp only [swp, List.getD_eq_getElem?_getD, List.getElem?_set, List.length_set]
  by_cases h1 : j = m
  · subst h1; simp [hj]
  · have h1' : ¬ m = j := fun e => h1 e.symm
    rw [if_neg h1, if_neg h1']
    by_cases h2 : i = m
    · subst h2; simp [hi]
    · have h2' : ¬ m = i := fun e => h2 e.symm
      rw [if_neg h2, if_neg h2']
theorem swp_perm {l : List X} {i j : Nat} (hi : i < l.length) (hj : j < l.length) : (swp d l i j).Perm l := by
  have := List.set_set_perm hi hj
  simpa [swp, List.getD_eq_getElem?_getD, List.getElem?_eq_getElem hi, List.getElem?_eq_getElem hj] using this
def upL (j : Nat) (l : List X) : List X :=
  if _h : j = 0 then l else if less (l.getD j d) (l.getD ((j - 1) / 2) d) then upL ((j - 1) / 2) (swp d l ((j - 1) / 2) j) else l
termination_by j
decreasing_by omega
def kidL (i n : Nat) (l : List X) : Nat := if 2 * i + 2 < n ∧ less (l.getD (2 * i + 2) d) (l.getD (2 * i + 1) d) = true then 2 * i + 2 else 2 * i + 1
theorem kid_gt (i n : Nat) (l : List X) : i < kidL d less i n l := by unfold kidL; split <;> omega
def downL (i n : Nat) (l : List X) : List X :=
  if h : 2 * i + 1 < n then if less (l.getD (kidL d less i n l) d) (l.getD i d) then downL (kidL d less i n l) n (swp d l i (kidL d less i n l)) else l else l
termination_by n - i
decreasing_by
  have := kid_gt d less i n l
  omega
def pushL (l : List X) (x : X) : List X := upL d less l.length (l ++ [x])
def popL (l : List X) : List X := downL d less 0 (l.length - 1) (swp d l 0 (l.length - 1))
theorem upL_len (j : Nat) (l : List X) : (upL d less j l).length = l.length := by
  induction j using Nat.strongRecOn generalizing l with
  | _ j ih =>
    rw [upL]
    split
    · rfl
    · split
      · rw [ih _ (by omega), swp_len]
      · rfl
theorem downL_len (i n : Nat) (l : List X) : (downL d less i n l).length = l.length := by
  generalize hm : n - i = m
  induction m using Nat.strongRecOn generalizing i l with
  | _ m ih =>
    rw [downL]
    split
    · split
      · have := kid_gt d less i n l
        rw [ih _ (by omega) _ _ rfl, swp_len]
      · rfl
    · rfl
theorem upL_perm (j : Nat) {l : List X} (hj : j < l.length) : (upL d less j l).Perm l := by
  induction j using Nat.strongRecOn generalizing l with
  | _ j ih =>
    rw [upL]
    split
    · exact List.Perm.refl _
    · split
      · exact (ih _ (by omega) (by rw [swp_len]; omega)).trans (swp_perm d (by omega) hj)
      · exact List.Perm.refl _
theorem kid_lt {i n : Nat} {l : List X} (h : 2 * i + 1 < n) : kidL d less i n l < n := by unfold kidL; split <;> omega
theorem downL_perm (i n : Nat) {l : List X} (hn : n ≤ l.length) : (downL d less i n l).Perm l := by
  generalize hm : n - i = m
  induction m using Nat.strongRecOn generalizing i l with
  | _ m ih =>
    rw [downL]
    split
    · rename_i h
      split
      · have h1 := kid_gt d less i n l
        have h2 := kid_lt d less (l := l) h
        exact (ih _ (by omega) _ (by rw [swp_len]; exact hn) rfl).trans (swp_perm d (by omega) (by omega))
      · exact List.Perm.refl _
    · exact List.Perm.refl _
theorem downL_above (i n : Nat) {l : List X} (hn : n ≤ l.length) (m : Nat) (hm : n ≤ m) : (downL d less i n l).getD m d = l.getD m d := by
  generalize hk : n - i = k
  induction k using Nat.strongRecOn generalizing i l with
  | _ k ih =>
    rw [downL]
    split
    · rename_i h
      split
      · have h1 := kid_gt d less i n l
        have h2 := kid_lt d less (l := l) h
        rw [ih _ (by omega) _ (by rw [swp_len]; exact hn) rfl, swp_get d (by omega) (by omega), if_neg (by omega), if_neg (by omega)]
      · rfl
    · rfl
def Heap (n : Nat) (l : List X) : Prop := ∀ i, 0 < i → i < n → less (l.getD i d) (l.getD ((i - 1) / 2) d) = false
variable (htr : ∀ a b c, less b a = false → less c b = false → less c a = false) (has : ∀ a b, less a b = true → less b a = false)
include htr has
theorem up_heap (j n : Nat) {l : List X} (hn : n = l.length) (hj : j < n) (h1 : ∀ i, 0 < i → i < n → i ≠ j → less (l.getD i d) (l.getD ((i - 1) / 2) d) = false)
    (h2 : ∀ i, 0 < i → i < n → (i - 1) / 2 = j → 0 < j → less (l.getD i d) (l.getD ((j - 1) / 2) d) = false) : Heap d less n (upL d less j l) := by
  induction j using Nat.strongRecOn generalizing l with
  | _ j ih =>
    rw [upL]
    split
    · rename_i h0
      subst h0
      exact fun i hi hin => h1 i hi hin (by omega)
    · rename_i h0
      split
      · rename_i hl
        have hp : (j - 1) / 2 < l.length := by omega
        have hg := fun m => swp_get d hp (hn ▸ hj) m
        generalize hpe : (j - 1) / 2 = p at *
        have hpj : p < j := by omega
        refine ih p hpj (by rw [swp_len]; exact hn) (by omega) (fun i hi hin hne => ?_) (fun i hi hin hpi h0p => ?_)
        · rw [hg i, hg ((i - 1) / 2)]
          by_cases e1 : i = j
          · subst e1
            rw [if_pos rfl, hpe, if_neg (by omega), if_pos rfl]
            exact has _ _ hl
          · rw [if_neg e1, if_neg hne]
            by_cases e2 : (i - 1) / 2 = j
            · rw [if_pos e2]
              exact h2 i hi hin e2 (by omega)
            · rw [if_neg e2]
              by_cases e3 : (i - 1) / 2 = p
              · rw [if_pos e3]
                have := h1 i hi hin e1
                rw [e3] at this
                exact htr _ _ _ (has _ _ hl) this
              · rw [if_neg e3]
                exact h1 i hi hin e1
        · rw [hg i, hg ((p - 1) / 2)]
          rw [if_neg (show ¬ (p - 1) / 2 = j by omega), if_neg (show ¬ (p - 1) / 2 = p by omega)]
          have hpp := h1 p h0p (by omega) (by omega)
          by_cases e1 : i = j
          · rw [if_pos e1]; exact hpp
          · rw [if_neg e1, if_neg (by omega)]
            have := h1 i hi hin e1
            rw [hpi] at this
            exact htr _ _ _ hpp this
      · rename_i hl
        intro i hi hin
        by_cases e : i = j
        · subst e; simpa using hl
        · exact h1 i hi hin e
theorem down_heap (i0 n : Nat) {l : List X} (hn : n ≤ l.length) (h1 : ∀ i, 0 < i → i < n → (i - 1) / 2 ≠ i0 → less (l.getD i d) (l.getD ((i - 1) / 2) d) = false)
    (h2 : ∀ i, 0 < i → i < n → (i - 1) / 2 = i0 → 0 < i0 → less (l.getD i d) (l.getD ((i0 - 1) / 2) d) = false) : Heap d less n (downL d less i0 n l) := by
  generalize hk : n - i0 = k
  induction k using Nat.strongRecOn generalizing i0 l with
  | _ k ih =>
    rw [downL]
    split
    · rename_i h
      have hkg := kid_gt d less i0 n l
      have hkl := kid_lt d less (l := l) h
      have hmin : ∀ i, 0 < i → i < n → (i - 1) / 2 = i0 → i ≠ kidL d less i0 n l → less (l.getD i d) (l.getD (kidL d less i0 n l) d) = false := by
        intro i hi hin hp hne
        unfold kidL at hne ⊢
        split at hne
        · rename_i hc
          rw [if_pos hc]
          have : i = 2 * i0 + 1 := by omega
          subst this
          exact has _ _ hc.2
        · rename_i hc
          rw [if_neg hc]
          have : i = 2 * i0 + 2 := by omega
          subst this
          have : ¬ less (l.getD (2 * i0 + 2) d) (l.getD (2 * i0 + 1) d) = true := fun e => hc ⟨hin, e⟩
          simpa using this
      have hpk : (kidL d less i0 n l - 1) / 2 = i0 := by unfold kidL; split <;> omega
      generalize kidL d less i0 n l = j at *
      split
      · rename_i hl
        have hg := fun m => swp_get d (l := l) (i := i0) (j := j) (by omega) (by omega) m
        refine ih (n - j) (by omega) j (by rw [swp_len]; exact hn) (fun i hi hin hne => ?_) (fun i hi hin hpi h0j => ?_) rfl
        · rw [hg i, hg ((i - 1) / 2), if_neg (show ¬ (i - 1) / 2 = j from hne)]
          by_cases e1 : i = j
          · rw [if_pos e1, if_pos (by rw [e1]; exact hpk)]
            exact has _ _ hl
          · rw [if_neg e1]
            by_cases e2 : (i - 1) / 2 = i0
            · rw [if_neg (by omega), if_pos e2]
              exact hmin i hi hin e2 e1
            · rw [if_neg e2]
              by_cases e3 : i = i0
              · rw [if_pos e3, e3]
                exact h2 j (by omega) hkl hpk (by omega)
              · rw [if_neg e3]
                exact h1 i hi hin e2
        · rw [hpk, hg i, hg i0, if_neg (by omega), if_neg (by omega), if_neg (by omega), if_pos rfl]
          have := h1 i hi hin (by omega)
          rw [hpi] at this
          exact this
      · rename_i hl
        have hl : less (l.getD j d) (l.getD i0 d) = false := by simpa using hl
        intro i hi hin
        by_cases e : (i - 1) / 2 = i0
        · by_cases e1 : i = j
          · rw [e1, hpk]; exact hl
          · rw [e]
            exact htr _ _ _ hl (hmin i hi hin e e1)
        · exact h1 i hi hin e
    · rename_i h
      intro i hi hin
      exact h1 i hi hin (by omega)
omit has in
theorem heap_min {n : Nat} {l : List X} (h : Heap d less n l) (hrf : ∀ a, less a a = false) : ∀ i, i < n → less (l.getD i d) (l.getD 0 d) = false := by
  intro i
  induction i using Nat.strongRecOn with
  | _ i ih =>
    intro hi
    by_cases e : i = 0
    · subst e; exact hrf _
    · exact htr _ _ _ (ih ((i - 1) / 2) (by omega) (by omega)) (h i (by omega) hi)
theorem push_heap {l : List X} (x : X) (h : Heap d less l.length l) : Heap d less (pushL d less l x).length (pushL d less l x) := by
  unfold pushL
  rw [upL_len]
  have hget : ∀ i, i < l.length → (l ++ [x]).getD i d = l.getD i d := fun i hi => by simp [List.getD_eq_getElem?_getD, List.getElem?_append_left hi]
  refine up_heap d less htr has l.length _ rfl (by simp) (fun i hi hin hne => ?_) (fun i hi hin hp h0 => ?_)
  · simp at hin
    rw [hget i (by omega), hget _ (by omega)]
    exact h i hi (by omega)
  · simp at hin; omega
omit htr has in
theorem push_perm (l : List X) (x : X) : (pushL d less l x).Perm (l ++ [x]) := upL_perm d less _ (by simp)
theorem pop_ok {l : List X} (h : Heap d less l.length l) (h0 : 0 < l.length) : (popL d less l).length = l.length ∧ (popL d less l).getD (l.length - 1) d = l.getD 0 d ∧ Heap d less (l.length - 1) ((popL d less l).take (l.length - 1)) ∧ ((popL d less l).getD (l.length - 1) d :: (popL d less l).take (l.length - 1)).Perm l := by
  have hlen : (popL d less l).length = l.length := by rw [popL, downL_len, swp_len]
  have hg := fun m => swp_get d (l := l) (i := 0) (j := l.length - 1) h0 (by omega) m
  have hx : (popL d less l).getD (l.length - 1) d = l.getD 0 d := by
    rw [popL, downL_above d less 0 (l.length - 1) (by rw [swp_len]; omega) _ (Nat.le_refl _), hg, if_pos rfl]
  have hheap : Heap d less (l.length - 1) (popL d less l) := by
    refine down_heap d less htr has 0 _ (by rw [swp_len]; omega) (fun i hi hin hp => ?_) (fun i hi hin hp h00 => by omega)
    rw [hg i, hg ((i - 1) / 2), if_neg (by omega), if_neg (by omega), if_neg (by omega), if_neg hp]
    exact h i hi (by omega)
  refine ⟨hlen, hx, fun i hi hin => ?_, ?_⟩
  · have hget : ∀ i, i < l.length - 1 → ((popL d less l).take (l.length - 1)).getD i d = (popL d less l).getD i d := fun i hi => by
      simp [List.getD_eq_getElem?_getD, List.getElem?_take, hi]
    rw [hget i hin, hget _ (by omega)]
    exact hheap i hi hin
  · have hp : (popL d less l).Perm l := by
      unfold popL
      exact (downL_perm d less _ _ (by rw [swp_len]; omega)).trans (swp_perm d h0 (by omega))
    refine List.Perm.trans ?_ hp
    generalize popL d less l = r at *
    have e : r = r.take (l.length - 1) ++ [r.getD (l.length - 1) d] := by
      have h5 : r.drop (l.length - 1) = [r.getD (l.length - 1) d] := by
        rw [List.drop_eq_getElem_cons (by omega), List.drop_eq_nil_of_le (by omega)]
        simp [List.getD_eq_getElem?_getD, List.getElem?_eq_getElem (show l.length - 1 < r.length by omega)]
      rw [← h5, List.take_append_drop]
    conv => rhs; rw [e]
    exact (List.perm_append_comm (l₁ := [_]))
def drainL : Nat → List X → List X
  | 0, _ => []
  | k + 1, l => (popL d less l).getD (l.length - 1) d :: drainL k ((popL d less l).take (l.length - 1))
theorem drain_ok (hrf : ∀ a, less a a = false) : ∀ (k : Nat) {l : List X}, l.length = k → Heap d less l.length l → (drainL d less k l).Pairwise (fun a b => less b a = false) ∧ (drainL d less k l).Perm l
  | 0, l, h, _ => by
    have : l = [] := List.eq_nil_of_length_eq_zero h
    subst this
    exact ⟨List.Pairwise.nil, List.Perm.refl _⟩
  | k + 1, l, hk, h => by
    obtain ⟨h1, h2, h3, h4⟩ := pop_ok d less htr has h (by omega)
    have hl : ((popL d less l).take (l.length - 1)).length = k := by rw [List.length_take, h1]; omega
    obtain ⟨g1, g2⟩ := drain_ok hrf k hl (by rw [hl]; have : k = l.length - 1 := by omega
                                             rw [this]; exact h3)
    refine ⟨?_, ?_⟩
    · simp only [drainL]
      refine List.Pairwise.cons (fun b hb => ?_) g1
      have hb1 := g2.mem_iff.1 hb
      have hb2 : b ∈ l := h4.mem_iff.1 (List.mem_cons_of_mem _ hb1)
      obtain ⟨i, hi⟩ := List.mem_iff_getElem?.1 hb2
      have hil : i < l.length := (List.getElem?_eq_some_iff.1 hi).1
      have := heap_min d less htr h hrf i hil
      rw [h2]
      rwa [List.getD_eq_getElem?_getD, hi] at this
    · simp only [drainL]
      exact (List.Perm.cons _ g2).trans h4
theorem pushes_ok (xs : List X) : ∀ (l : List X), Heap d less l.length l → Heap d less (xs.foldl (pushL d less) l).length (xs.foldl (pushL d less) l) ∧ (xs.foldl (pushL d less) l).Perm (l ++ xs) := by
  induction xs with
  | nil => intro l h; exact ⟨h, by simp⟩
  | cons x xs ih =>
    intro l h
    obtain ⟨g1, g2⟩ := ih (pushL d less l x) (push_heap d less htr has x h)
    refine ⟨g1, g2.trans ?_⟩
    have := (push_perm d less l x).append_right xs
    simpa using this
theorem hsort_ok (hrf : ∀ a, less a a = false) (xs : List X) : (drainL d less xs.length (xs.foldl (pushL d less) [])).Pairwise (fun a b => less b a = false) ∧ (drainL d less xs.length (xs.foldl (pushL d less) [])).Perm xs := by
  obtain ⟨g1, g2⟩ := pushes_ok d less htr has xs [] (fun i hi hin => by simp at hin)
  have hl : (xs.foldl (pushL d less) []).length = xs.length := by simpa using g2.length_eq
  obtain ⟨h1, h2⟩ := drain_ok d less htr has hrf xs.length hl g1
  exact ⟨h1, h2.trans (by simpa using g2)⟩
end
end Go.Proofs.Ytkifajabiggfmaa
end
section
set_option linter.unusedSimpArgs false
set_option linter.unusedVariables false
namespace Go.Proofs.Ytkifajabiggfmaa
set_option linter.unusedSimpArgs false
set_option linter.unusedVariables false
open Go.Bx
set_option maxRecDepth 10000
def cmpI (a b : Int) : Int := if a < b then -1 else if b < a then 1 else 0
theorem sNaN (a : Int) : Ctr Try.prog 96 [.d (.int .i64 a)] [] (.d (.bool false)) [] [] := by
  refine ctr_pure Try.func96 ok96 rfl cc96 cr96 Try.ntmps96 (by simp) rfl rfl ?_; intro c hP hfn; simp only [kc96, vcb, ↓evSo_some, ↓reduceIte, reduceCtorEq, seval]
  exact RetK.pure (by simp only [rs96, rsb, vcb, ↓evSo_some, ↓reduceIte, reduceCtorEq, seval]) (by (simp only [rs96, rsb, vcb, ↓evSo_some, ↓reduceIte, reduceCtorEq, seval, enb, vcb, ↓evSo_some, ↓reduceIte, reduceCtorEq, seval]) <;> (first | simp))
theorem sCmpI (a b : Int) : Ctr Try.prog 95 [.d (.int .i64 a), .d (.int .i64 b)] [] (.d (.int .i64 (cmpI a b))) [] [] := by
  refine ctr_pure Try.func95 ok95 rfl cc95 cr95 Try.ntmps95 (by simp) rfl rfl ?_; intro c hP hfn; simp only [kc95, vcb, ↓evSo_some, ↓reduceIte, reduceCtorEq, seval]
  repeat' first
      | (first
          | refine TR.p hP (by first | exact sNaN a | exact sNaN b) (by repeat' first | exact trivial | (intro _; assumption) | apply And.intro) ?_
          | refine TR.gp hP rfl (fun _ => by first | exact sNaN a | exact sNaN b) (fun _ => by repeat' first | exact trivial | (intro _; assumption) | apply And.intro) ?_
          | refine TR.pv hP rfl (by first | exact sNaN a | exact sNaN b) trivial (by repeat' first | exact trivial | (intro _; assumption) | apply And.intro) ?_
         try simp only [vcb, ↓evSo_some, ↓reduceIte, reduceCtorEq, seval])
      | refine And.intro (fun h => ?_) (fun h => ?_)
      | refine And.intro (by first | omega | (simp only [maxLen, decide_eq_true_eq, decide_eq_false_iff_not] at *; omega)) ?_
      | (refine TR.aslO rfl rfl rfl rfl trivial (Nat.le_of_ble_eq_true rfl) ?_
         try simp only [vcb, ↓evSo_some, ↓reduceIte, reduceCtorEq, seval])
      | refine And.intro trivial ?_
      | refine And.intro rfl ?_
      | fail
  · have h' := of_decide_eq_true h
    exact RetK.pure (by simp only [rs95, rsb, vcb, ↓evSo_some, ↓reduceIte, reduceCtorEq, seval]) (by (simp only [rs95, rsb, vcb, ↓evSo_some, ↓reduceIte, reduceCtorEq, seval, enb, vcb, ↓evSo_some, ↓reduceIte, reduceCtorEq, seval]) <;> (first | simp [cmpI, h']))
  · have h' := of_decide_eq_true h
    have h2 : ¬ a < b := by omega
    exact RetK.pure (by simp only [rs95, rsb, vcb, ↓evSo_some, ↓reduceIte, reduceCtorEq, seval]) (by (simp only [rs95, rsb, vcb, ↓evSo_some, ↓reduceIte, reduceCtorEq, seval, enb, vcb, ↓evSo_some, ↓reduceIte, reduceCtorEq, seval]) <;> (first | simp only [cmpI, if_neg h2, if_pos h']))
  · rename_i h0
    have h' := of_decide_eq_false h
    have h2 := of_decide_eq_false h0
    exact RetK.pure (by simp only [rs95, rsb, vcb, ↓evSo_some, ↓reduceIte, reduceCtorEq, seval]) (by (simp only [rs95, rsb, vcb, ↓evSo_some, ↓reduceIte, reduceCtorEq, seval, enb, vcb, ↓evSo_some, ↓reduceIte, reduceCtorEq, seval]) <;> (first | simp only [cmpI, if_neg h2, if_neg h']))
theorem sOr (a b : Int) : Ctr Try.prog 94 [.d (slK .i64 [a, b])] [] (.d (.int .i64 (if a ≠ 0 then a else b))) [] [] := by
  refine ctr_pure Try.func94 ok94 rfl cc94 cr94 Try.ntmps94 (by simp) rfl rfl ?_; intro c hP hfn; simp only [kc94, vcb, ↓evSo_some, ↓reduceIte, reduceCtorEq, seval]
  refine vcC.loop (X := Nat) (fun k => ⟨[(3, .d (.int .i64 0)), (6, .d (slK .i64 [a, b])), (7, .d (.int .i64 2)), (8, .d (.int .i64 k))], [], []⟩)
    (fun k => k ≤ 2 ∧ ∀ j, j < k → ([a, b].getD j 0) = 0) (fun k => 2 - k) 0 ⟨Nat.zero_le _, fun j hj => absurd hj (Nat.not_lt_zero j)⟩ (Wk.of [] hfn rfl (by (simp only [enb, vcb, ↓evSo_some, ↓reduceIte, reduceCtorEq, seval]) <;> (first | exact wS (by omega) | (rw [List.length_append]; exact wS (by omega)) | assumption)) (by simp only [enb, vcb, ↓evSo_some, ↓reduceIte, reduceCtorEq, seval])) ?_
  rintro k ⟨hk, he⟩
  have hk3 : k = 0 ∨ k = 1 ∨ k = 2 := by omega
  have h2 : ([a, b] : List Int).length = 2 := rfl
  rcases hk3 with rfl | rfl | rfl
  · have h0 : ([a, b] : List Int).getD 0 0 = a := rfl
    simp only [Int.natCast_zero, h0, h2, vcb, ↓evSo_some, ↓reduceIte, reduceCtorEq, seval]
    repeat' first
        | refine And.intro (fun h => ?_) (fun h => ?_)
        | refine And.intro (by first | omega | (simp only [maxLen, decide_eq_true_eq, decide_eq_false_iff_not] at *; omega)) ?_
        | (refine TR.aslO rfl rfl rfl rfl trivial (Nat.le_of_ble_eq_true rfl) ?_
           try simp only [h0, h2, vcb, ↓evSo_some, ↓reduceIte, reduceCtorEq, seval])
        | refine And.intro trivial ?_
        | refine And.intro rfl ?_
        | fail
    · have h' : a ≠ 0 := by simpa using h
      exact RetK.pure (by simp only [rs94, rsb, vcb, ↓evSo_some, ↓reduceIte, reduceCtorEq, seval]) (by (simp only [rs94, rsb, vcb, ↓evSo_some, ↓reduceIte, reduceCtorEq, seval, enb, vcb, ↓evSo_some, ↓reduceIte, reduceCtorEq, seval]) <;> (first | rw [if_pos h']))
    · have h' : a = 0 := by simpa using h
      exact lopK.on 1 ⟨by decide, fun j hj => by have : j = 0 := by omega
                                                 subst this; exact h'⟩ (by decide) (Wk.of [] hfn rfl (by (simp only [enb, vcb, ↓evSo_some, ↓reduceIte, reduceCtorEq, seval]) <;> (first | exact wS (by omega) | (rw [List.length_append]; exact wS (by omega)) | assumption)) (by simp only [enb, vcb, ↓evSo_some, ↓reduceIte, reduceCtorEq, seval]))
  · have ha : a = 0 := he 0 (by decide)
    have h0 : ([a, b] : List Int).getD 1 0 = b := rfl
    have h1 : ((1 : Nat) : Int) = 1 := rfl
    simp only [h1, h0, h2, vcb, ↓evSo_some, ↓reduceIte, reduceCtorEq, seval]
    repeat' first
        | refine And.intro (fun h => ?_) (fun h => ?_)
        | refine And.intro (by first | omega | (simp only [maxLen, decide_eq_true_eq, decide_eq_false_iff_not] at *; omega)) ?_
        | (refine TR.aslO rfl rfl rfl rfl trivial (Nat.le_of_ble_eq_true rfl) ?_
           try simp only [h0, h2, vcb, ↓evSo_some, ↓reduceIte, reduceCtorEq, seval])
        | refine And.intro trivial ?_
        | refine And.intro rfl ?_
        | fail
    · exact RetK.pure (by simp only [rs94, rsb, vcb, ↓evSo_some, ↓reduceIte, reduceCtorEq, seval]) (by (simp only [rs94, rsb, vcb, ↓evSo_some, ↓reduceIte, reduceCtorEq, seval, enb, vcb, ↓evSo_some, ↓reduceIte, reduceCtorEq, seval]) <;> (first | rw [if_neg (by simp [ha])]))
    · have h' : b = 0 := by simpa using h
      exact lopK.on 2 ⟨by decide, fun j hj => by
        rcases (by omega : j = 0 ∨ j = 1) with rfl | rfl
        · exact ha
        · exact h'⟩ (by decide) (Wk.of [] hfn rfl (by (simp only [enb, vcb, ↓evSo_some, ↓reduceIte, reduceCtorEq, seval]) <;> (first | exact wS (by omega) | (rw [List.length_append]; exact wS (by omega)) | assumption)) (by simp only [enb, vcb, ↓evSo_some, ↓reduceIte, reduceCtorEq, seval]))
  · have ha : a = 0 := he 0 (by decide)
    have hb : b = 0 := he 1 (by decide)
    have h1 : ((2 : Nat) : Int) = 2 := rfl
    simp only [h1, h2, vcb, ↓evSo_some, ↓reduceIte, reduceCtorEq, seval]
    repeat' first
        | refine And.intro (fun h => ?_) (fun h => ?_)
        | refine And.intro (by first | omega | (simp only [maxLen, decide_eq_true_eq, decide_eq_false_iff_not] at *; omega)) ?_
        | (refine TR.aslO rfl rfl rfl rfl trivial (Nat.le_of_ble_eq_true rfl) ?_
           try simp only [h2, vcb, ↓evSo_some, ↓reduceIte, reduceCtorEq, seval])
        | refine And.intro trivial ?_
        | refine And.intro rfl ?_
        | fail
    all_goals exact RetK.pure (by simp only [rs94, rsb, vcb, ↓evSo_some, ↓reduceIte, reduceCtorEq, seval]) (by (simp only [rs94, rsb, vcb, ↓evSo_some, ↓reduceIte, reduceCtorEq, seval, enb, vcb, ↓evSo_some, ↓reduceIte, reduceCtorEq, seval]) <;> (first | rw [if_neg (by simp [ha]), hb]))
theorem sOr' {n : Nat} {full : Bool} {ds : List D} {a b : Int} (h : LitI .i64 ds [a, b]) (hn : n = 2) : Ctr Try.prog 94 [.d (.sl full 1 n (litRow 1 ds))] [] (.d (.int .i64 (if a ≠ 0 then a else b))) [] [] :=
  (sOr a b).arg ⟨h.vle hn, trivial⟩
def dayQ (L : List Ls) (k : Nat) : Int := (L.getD k default).day
def cmpQ (L : List Ls) (a b : Nat) : Int := if cmpI (dayQ L a) (dayQ L b) ≠ 0 then cmpI (dayQ L a) (dayQ L b) else cmpI a b
def lessQ (L : List Ls) (a b : Nat) : Bool := decide (cmpQ L a b < 0)
def rowQ (l : List Nat) : Own := .row 3 1 l.length (fun i => [.int .i64 (l.getD i 0 : Nat)])
theorem sLen (L : List Ls) (l : List Nat) : Ctr Try.prog 47 [.own 1 0] [(1, .fix [.d (slX L), .osl 2]), (2, rowQ l)] (.d (.int .i64 l.length)) [(1, .fix [.d (slX L), .osl 2]), (2, rowQ l)] [] := by
  refine ctr_own Try.func47 ok47 rfl cc47 cr47 Try.ntmps47 (by simp) rfl ?_
  intro c hP hfn
  simp only [kc47, namesL, V.names, ownNames, rowQ, slX, vcb, ↓evSo_some, ↓reduceIte, reduceCtorEq, seval]
  refine RetK.mk _ (Wk.refl _ _) (by simp only [rs47, rsb, vcb, ↓evSo_some, ↓reduceIte, reduceCtorEq, seval]) (by simp only [rs47, rsb, vcb, ↓evSo_some, ↓reduceIte, reduceCtorEq, seval, enb, vcb, ↓evSo_some, ↓reduceIte, reduceCtorEq, seval]) (by simp only [enb, vcb, ↓evSo_some, ↓reduceIte, reduceCtorEq, seval])
set_option maxHeartbeats 2000000 in
theorem sLess (L : List Ls) (l : List Nat) (hL : ∀ k, k ∈ l → k < L.length) (hLl : L.length ≤ 1000000) (i j : Nat) (hi : i < l.length) (hj : j < l.length) :
    Ctr Try.prog 90 [.own 1 0, .d (.int .i64 i), .d (.int .i64 j)] [(1, .fix [.d (slX L), .osl 2]), (2, rowQ l)] (.d (.bool (lessQ L (l.getD i 0) (l.getD j 0)))) [(1, .fix [.d (slX L), .osl 2]), (2, rowQ l)] [] := by
  refine ctr_own Try.func90 ok90 rfl cc90 cr90 Try.ntmps90 (by simp) rfl ?_
  intro c hP hfn
  have h1 : (0 : Int) ≤ (i : Int) ∧ (i : Int) < l.length := by omega
  have h2 : (0 : Int) ≤ (j : Int) ∧ (j : Int) < l.length := by omega
  have hg : ∀ m, m < l.length → l.getD m 0 < L.length := fun m hm => hL _ (by rw [List.getD_eq_getElem?_getD, List.getElem?_eq_getElem hm]; exact List.getElem_mem hm)
  generalize hA : l.getD i 0 = A at *
  generalize hB : l.getD j 0 = B at *
  have hA' : A < L.length := hA ▸ hg i hi
  have hB' : B < L.length := hB ▸ hg j hj
  have h3 : (0 : Int) ≤ (A : Int) ∧ (A : Int) < L.length := by omega
  have h4 : (0 : Int) ≤ (B : Int) ∧ (B : Int) < L.length := by omega
  have c1 := sCmpI (dayQ L A) (dayQ L B)
  have c2 := sCmpI (A : Int) (B : Int)
  have c3 := @sOr' 2 true [.int .i64 (cmpI (dayQ L A) (dayQ L B)), .int .i64 (cmpI (A : Int) (B : Int))] (cmpI (dayQ L A) (dayQ L B)) (cmpI (A : Int) (B : Int)) (by repeat constructor) rfl
  simp only [dayQ] at c1 c3
  simp only [kc90, namesL, V.names, ownNames, rowQ, slX, hA, hB, vcb, ↓evSo_some, ↓reduceIte, reduceCtorEq, seval]
  repeat' first
      | (first
          | refine TR.p hP (by first | exact c1 | exact c2 | exact c3) (by repeat' first | exact trivial | (intro _; assumption) | apply And.intro) ?_
          | refine TR.gp hP rfl (fun _ => by first | exact c1 | exact c2 | exact c3) (fun _ => by repeat' first | exact trivial | (intro _; assumption) | apply And.intro) ?_
          | refine TR.pv hP rfl (by first | exact c1 | exact c2 | exact c3) trivial (by repeat' first | exact trivial | (intro _; assumption) | apply And.intro) ?_
         try simp only [hA, hB, vcb, ↓evSo_some, ↓reduceIte, reduceCtorEq, seval])
      | refine And.intro (fun h => ?_) (fun h => ?_)
      | refine And.intro (by first | omega | (simp only [maxLen, decide_eq_true_eq, decide_eq_false_iff_not] at *; omega)) ?_
      | (refine TR.aslO rfl rfl rfl rfl trivial (Nat.le_of_ble_eq_true rfl) ?_
         try simp only [hA, hB, vcb, ↓evSo_some, ↓reduceIte, reduceCtorEq, seval])
      | refine And.intro trivial ?_
      | refine And.intro rfl ?_
      | fail
  refine RetK.mk _ (Wk.refl _ _) (by simp only [rs90, rsb, vcb, ↓evSo_some, ↓reduceIte, reduceCtorEq, seval]) (by simp only [rs90, rsb, vcb, ↓evSo_some, ↓reduceIte, reduceCtorEq, seval, enb, vcb, ↓evSo_some, ↓reduceIte, reduceCtorEq, seval, lessQ, cmpQ, dayQ]) (by simp only [enb, vcb, ↓evSo_some, ↓reduceIte, reduceCtorEq, seval])
set_option maxHeartbeats 1000000 in
theorem sSwap (L : List Ls) (l : List Nat) (i j : Nat) (hi : i < l.length) (hj : j < l.length) :
    Ctr Try.prog 93 [.own 1 0, .d (.int .i64 i), .d (.int .i64 j)] [(1, .fix [.d (slX L), .osl 2]), (2, rowQ l)] (.tup []) [(1, .fix [.d (slX L), .osl 2]), (2, rowQ (swp 0 l i j))] [] := by
  refine ctr_own Try.func93 ok93 rfl cc93 cr93 Try.ntmps93 (by simp) rfl ?_
  intro c hP hfn
  have h1 : (0 : Int) ≤ (i : Int) ∧ (i : Int) < l.length := by omega
  have h2 : (0 : Int) ≤ (j : Int) ∧ (j : Int) < l.length := by omega
  simp only [kc93, namesL, V.names, ownNames, rowQ, slX, vcb, ↓evSo_some, ↓reduceIte, reduceCtorEq, seval]
  repeat' first
      | refine And.intro (fun h => ?_) (fun h => ?_)
      | refine And.intro (by first | omega | (simp only [maxLen, decide_eq_true_eq, decide_eq_false_iff_not] at *; omega)) ?_
      | (refine TR.aslO rfl rfl rfl rfl trivial (Nat.le_of_ble_eq_true rfl) ?_
         try simp only [vcb, ↓evSo_some, ↓reduceIte, reduceCtorEq, seval])
      | refine And.intro trivial ?_
      | refine And.intro rfl ?_
      | fail
  refine RetK.mk' _ (Wk.refl _ _) (by simp only [rs93, rsb, vcb, ↓evSo_some, ↓reduceIte, reduceCtorEq, seval]) (by simp only [rs93, rsb, vcb, ↓evSo_some, ↓reduceIte, reduceCtorEq, seval, enb, vcb, ↓evSo_some, ↓reduceIte, reduceCtorEq, seval]) ?_
  simp only [enb, vcb, ↓evSo_some, ↓reduceIte, reduceCtorEq, seval]
  refine OLe.row (swp_len _ _ _ _).symm fun m hm => ?_
  rw [swp_get 0 hi hj m]
  by_cases e1 : m = j
  · subst e1; simp [putD]; try (split <;> simp_all [putD])
  · rw [if_neg e1, if_neg e1]
    by_cases e2 : m = i
    · subst e2; simp [putD]
    · rw [if_neg e2, if_neg e2]
set_option maxHeartbeats 1000000 in
theorem sPush (L : List Ls) (l : List Nat) (x : Nat) (hl : l.length ≤ 1000000) :
    Ctr Try.prog 92 [.own 1 0, .ifc 3 (.d (.int .i64 x))] [(1, .fix [.d (slX L), .osl 2]), (2, rowQ l)] (.tup []) [(1, .fix [.d (slX L), .osl 3]), (3, rowQ (l ++ [x]))] [3] := by
  refine ctr_own Try.func92 ok92 rfl cc92 cr92 Try.ntmps92 (by simp) rfl ?_
  intro c hP hfn
  have hb : (l.length + 1) * 8 ≤ 140737488355328 := by omega
  have hm : l.length + 1 ≤ maxLen := by simp only [maxLen]; omega
  simp only [kc92, namesL, V.names, ownNames, rowQ, slX, hb, hm, vcb, ↓evSo_some, ↓reduceIte, reduceCtorEq, seval]
  repeat' first
      | refine And.intro (fun h => ?_) (fun h => ?_)
      | refine And.intro (by first | omega | (simp only [maxLen, decide_eq_true_eq, decide_eq_false_iff_not] at *; omega)) ?_
      | (refine TR.aslO rfl rfl rfl rfl trivial (Nat.le_of_ble_eq_true rfl) ?_
         try simp only [vcb, ↓evSo_some, ↓reduceIte, reduceCtorEq, seval])
      | refine And.intro trivial ?_
      | refine And.intro rfl ?_
      | fail
  refine RetK.mk' _ (Wk.sw 12 3 _ hfn (by simp [namesL, V.names, ownNames, rowQ]) (by simp [namesL, V.names, ownNames, rowQ])) (by simp only [rs92, rsb, vcb, ↓evSo_some, ↓reduceIte, reduceCtorEq, seval]) (by simp only [rs92, rsb, vcb, ↓evSo_some, ↓reduceIte, reduceCtorEq, seval, enb, vcb, ↓evSo_some, ↓reduceIte, reduceCtorEq, seval]) ?_
  simp only [enb, vcb, ↓evSo_some, ↓reduceIte, reduceCtorEq, seval]
  refine OLe.app1 (fun p : Nat => [.int .i64 (p : Int)]) (fun i hi => by simp [hi]) (by simp [litRow])
set_option maxHeartbeats 1000000 in
theorem sPop (L : List Ls) (l : List Nat) (h0 : 0 < l.length) (hl : l.length ≤ 1000000) :
    Ctr Try.prog 91 [.own 1 0] [(1, .fix [.d (slX L), .osl 2]), (2, rowQ l)] (.ifc 3 (.d (.int .i64 (l.getD (l.length - 1) 0 : Nat)))) [(1, .fix [.d (slX L), .osl 3]), (3, rowQ (l.take (l.length - 1)))] [3] := by
  refine ctr_own Try.func91 ok91 rfl cc91 cr91 Try.ntmps91 (by simp) rfl ?_
  intro c hP hfn
  have e1 : IntKind.i64.wrap ((l.length : Int) - 1) = ((l.length - 1 : Nat) : Int) := by rw [wI (by omega)]; omega
  have h1 : (0 : Int) ≤ ((l.length - 1 : Nat) : Int) ∧ ((l.length - 1 : Nat) : Int) < l.length := by omega
  have h2 : ((l.length - 1 : Nat) : Int) ≤ (l.length : Int) := by omega
  simp only [kc91, namesL, V.names, ownNames, rowQ, slX, e1, vcb, ↓evSo_some, ↓reduceIte, reduceCtorEq, seval]
  repeat' first
      | refine And.intro (fun h => ?_) (fun h => ?_)
      | refine And.intro (by first | omega | (simp only [maxLen, decide_eq_true_eq, decide_eq_false_iff_not] at *; omega)) ?_
      | (refine TR.aslO rfl rfl rfl rfl trivial (Nat.le_of_ble_eq_true rfl) ?_
         try simp only [e1, vcb, ↓evSo_some, ↓reduceIte, reduceCtorEq, seval])
      | refine And.intro trivial ?_
      | refine And.intro rfl ?_
      | fail
  refine RetK.mk _ (Wk.shr 2 3 (l.length - 1) rfl (by omega) (by simp [namesL, V.names, ownNames, rowQ])) (by simp only [rs91, rsb, vcb, ↓evSo_some, ↓reduceIte, reduceCtorEq, seval]) (by simp only [rs91, rsb, vcb, ↓evSo_some, ↓reduceIte, reduceCtorEq, seval, enb, vcb, ↓evSo_some, ↓reduceIte, reduceCtorEq, seval]) ?_
  simp only [enb, vcb, ↓evSo_some, ↓reduceIte, reduceCtorEq, seval]
  refine OLe.row (by simp) fun i hi => ?_
  have hi2 : i < l.length := by omega
  simp [List.getD_eq_getElem?_getD, List.getElem?_take, hi, hi2]
theorem mLess : mth Try.prog 69 "Less" = some (90, true) := by kernel_rfl
theorem mSwap : mth Try.prog 69 "Swap" = some (93, true) := by kernel_rfl
theorem mLen : mth Try.prog 69 "Len" = some (47, true) := by kernel_rfl
theorem mPush : mth Try.prog 69 "Push" = some (92, true) := by kernel_rfl
theorem mPop : mth Try.prog 69 "Pop" = some (91, true) := by kernel_rfl
theorem uPl : Try.prog.underlying 69 = some (.pointer 71) := by kernel_rfl
def vH : V := .ifc 69 (.own 1 0)
theorem valid_ivK {c : Ctx} {st : St} {P : Program} (hP : c.P = P) {d : Option Nat} {name : String} {x : X} {t e : TypeId} {xv : V} {f : Nat} {xs : List X} {k1 k2 : Nat} {o1 o2 : Go.Bx.Own} {res : V} (hx : evV st x = .ifc t xv) (hm : mth P t name = some (f, true)) (ht : P.underlying t = some (.pointer e))
    (hS : Ctr P f (xv :: evVs st xs) [(k1, o1), (k2, o2)] res [(k1, o1), (k2, o2)] []) (hsx : evS true st x) (hs : evSs true st xs) (h1 : own? st.own k1 = some o1) (h2 : own? st.own k2 = some o2) (hne : k1 ≠ k2) : Valid c ⟨d, none, .ivk name x xs⟩ st { val := res, upd := [], rd := [k1, k2], new := [] } := by
  have hnd : (keysO [(k1, o1), (k2, o2)]).Nodup := by simp [keysO, hne]
  exact valid_keep (valid_iv hx (by rw [hP]; exact hm) (by rw [hP]; exact ht) (by rw [hP]; exact hS) hsx hs (hin2 h1 h2) hnd) (hin2 h1 h2) (fun k hk => hk) hnd
set_option maxHeartbeats 1000000 in
theorem sUp (L : List Ls) (hLl : L.length ≤ 1000000) (l : List Nat) (hL : ∀ k, k ∈ l → k < L.length) (j : Nat) (hj : j < l.length) (hl : l.length ≤ 1000000) :
    Ctr Try.prog 60 [vH, .d (.int .i64 j)] [(1, .fix [.d (slX L), .osl 2]), (2, rowQ l)] (.tup []) [(1, .fix [.d (slX L), .osl 2]), (2, rowQ (upL 0 (lessQ L) j l))] [] := by
  refine ctr_own Try.func60 ok60 rfl cc60 cr60 Try.ntmps60 (by simp [vH]) rfl ?_
  intro c hP hfn
  simp only [kc60, namesL, V.names, ownNames, vH, vcb, ↓evSo_some, ↓reduceIte, reduceCtorEq, seval]
  refine vcC.loop (X := Nat × List Nat) (fun x => ⟨[(0, vH), (1, .d (.int .i64 x.1))], [(1, .fix [.d (slX L), .osl 2]), (2, rowQ x.2)], [1, 2]⟩)
    (fun x => x.1 < x.2.length ∧ x.2.length = l.length ∧ (∀ k, k ∈ x.2 → k < L.length) ∧ upL 0 (lessQ L) j l = upL 0 (lessQ L) x.1 x.2) (fun x => x.1) (j, l) ⟨hj, rfl, hL, rfl⟩ (Wk.of _ hfn rfl (by simp only [vH, enb, vcb, ↓evSo_some, ↓reduceIte, reduceCtorEq, seval]) (by simp only [enb, vcb, ↓evSo_some, ↓reduceIte, reduceCtorEq, seval])) ?_
  rintro ⟨i, r⟩ ⟨hi, hr, HL, he⟩
  simp only at hi hr HL he
  have e1 : IntKind.i64.wrap ((i : Int) - 1) = (i : Int) - 1 := wI (by omega)
  have e2 : IntKind.i64.wrap (((i : Int) - 1).tdiv 2) = (((i - 1) / 2 : Nat) : Int) := by
    cases i with
    | zero => decide
    | succ n =>
      have : ((n + 1 : Nat) : Int) - 1 = (n : Int) := by omega
      rw [this, show (2 : Int) = ((2 : Nat) : Int) from rfl, tdiv_nat, Nat.add_sub_cancel, wI (by omega)]
  have hl2 : ¬ ((2 : Int) = 0) := by decide
  by_cases h0 : i = 0
  · have hu : upL 0 (lessQ L) i r = r := by rw [upL, dif_pos h0]
    have h1 : ((((i - 1) / 2 : Nat) : Int) == (i : Int)) = true := by rw [beq_iff_eq]; omega
    rw [hu] at he
    simp only [vH, e1, e2, h1, hl2, vcb, ↓evSo_some, ↓reduceIte, reduceCtorEq, seval]
    refine TR.gkeep (gc := false) [] (.d (.bool false)) rfl (fun h => by cases h) ?_
    simp only [vcb, ↓evSo_some, ↓reduceIte, reduceCtorEq, seval]
    refine RetK.mk' _ (Wk.refl _ _) (by simp only [rs60, rsb, vcb, ↓evSo_some, ↓reduceIte, reduceCtorEq, seval]) (by simp only [rs60, rsb, vcb, ↓evSo_some, ↓reduceIte, reduceCtorEq, seval, enb, vcb, ↓evSo_some, ↓reduceIte, reduceCtorEq, seval]) ?_
    simp only [he, enb, vcb, ↓evSo_some, ↓reduceIte, reduceCtorEq, seval]
  · have h1 : ((((i - 1) / 2 : Nat) : Int) == (i : Int)) = false := by
      rw [beq_eq_false_iff_ne]; omega
    simp only [vH, e1, e2, h1, hl2, vcb, ↓evSo_some, ↓reduceIte, reduceCtorEq, seval]
    refine TR.gkeep (gc := true) [1, 2] (.d (.bool ((lessQ L) (r.getD i 0) (r.getD ((i - 1) / 2) 0)))) rfl (fun _ => valid_ivK hP rfl mLess uPl (sLess L r HL hLl i ((i - 1) / 2) hi (by omega)) (fun _ => rfl) ⟨fun _ => rfl, fun _ => rfl, trivial⟩ rfl rfl (by decide)) ?_
    simp only [vcb, ↓evSo_some, ↓reduceIte, reduceCtorEq, seval]
    refine ⟨fun h => ?_, fun h => ?_⟩
    · have hu : upL 0 (lessQ L) i r = r := by rw [upL, dif_neg h0, if_neg (by simpa using h)]
      rw [hu] at he
      refine RetK.mk' _ (Wk.refl _ _) (by simp only [rs60, rsb, vcb, ↓evSo_some, ↓reduceIte, reduceCtorEq, seval]) (by simp only [rs60, rsb, vcb, ↓evSo_some, ↓reduceIte, reduceCtorEq, seval, enb, vcb, ↓evSo_some, ↓reduceIte, reduceCtorEq, seval]) ?_
      simp only [he, enb, vcb, ↓evSo_some, ↓reduceIte, reduceCtorEq, seval]
    · have hu : upL 0 (lessQ L) i r = upL 0 (lessQ L) ((i - 1) / 2) (swp 0 r ((i - 1) / 2) i) := by
        rw [upL, dif_neg h0, if_pos (by simpa using h)]
      rw [hu] at he
      refine TR.iv hP [(1, .fix [.d (slX L), .osl 2]), (2, rowQ r)] [(1, .fix [.d (slX L), .osl 2]), (2, rowQ (swp 0 r ((i - 1) / 2) i))] _ [] rfl mSwap uPl (sSwap L r ((i - 1) / 2) i (by omega) hi) trivial (by repeat' first | exact trivial | (intro _; assumption) | apply And.intro) (hin2 rfl rfl) (by simp [keysO]) (by simp) ?_
      simp only [vcb, ↓evSo_some, ↓reduceIte, reduceCtorEq, seval]
      exact lopK.on ((i - 1) / 2, swp 0 r ((i - 1) / 2) i) ⟨by rw [swp_len]; omega, by rw [swp_len]; exact hr, fun k hk => HL k ((swp_perm 0 (by omega) (by omega)).mem_iff.1 hk), he⟩ (by simp only; omega) (Wk.of _ hfn rfl (by simp only [vH, enb, vcb, ↓evSo_some, ↓reduceIte, reduceCtorEq, seval]) (by simp only [enb, vcb, ↓evSo_some, ↓reduceIte, reduceCtorEq, seval]))
set_option maxHeartbeats 2000000 in
theorem sHDn (L : List Ls) (hLl : L.length ≤ 1000000) (l : List Nat) (hL : ∀ k, k ∈ l → k < L.length) (i0 n : Nat) (hn : n ≤ l.length) (hl : l.length ≤ 1000000) (hi0 : i0 < l.length) :
    Ctr Try.prog 61 [vH, .d (.int .i64 i0), .d (.int .i64 n)] [(1, .fix [.d (slX L), .osl 2]), (2, rowQ l)] .un [(1, .fix [.d (slX L), .osl 2]), (2, rowQ (downL 0 (lessQ L) i0 n l))] [] := by
  refine ctr_own Try.func61 ok61 rfl cc61 cr61 Try.ntmps61 (by simp [vH]) rfl ?_
  intro c hP hfn
  simp only [kc61, namesL, V.names, ownNames, vH, vcb, ↓evSo_some, ↓reduceIte, reduceCtorEq, seval]
  refine vcC.loop (X := Nat × List Nat) (fun x => ⟨[(0, vH), (1, .d (.int .i64 i0)), (2, .d (.int .i64 n)), (7, .d (.int .i64 x.1))], [(1, .fix [.d (slX L), .osl 2]), (2, rowQ x.2)], [1, 2]⟩)
    (fun x => x.1 < x.2.length ∧ x.2.length = l.length ∧ (∀ k, k ∈ x.2 → k < L.length) ∧ downL 0 (lessQ L) i0 n l = downL 0 (lessQ L) x.1 n x.2) (fun x => l.length - x.1) (i0, l) ⟨hi0, rfl, hL, rfl⟩ (Wk.of _ hfn rfl (by simp only [vH, enb, vcb, ↓evSo_some, ↓reduceIte, reduceCtorEq, seval]) (by simp only [enb, vcb, ↓evSo_some, ↓reduceIte, reduceCtorEq, seval])) ?_
  rintro ⟨i, r⟩ ⟨hi, hr, HL, he⟩
  simp only at hi hr HL he
  have e1 : IntKind.i64.wrap (2 * (i : Int)) = 2 * (i : Int) := wI (by omega)
  have e2 : IntKind.i64.wrap (2 * (i : Int) + 1) = ((2 * i + 1 : Nat) : Int) := by rw [wI (by omega)]; omega
  have e3 : IntKind.i64.wrap (((2 * i + 1 : Nat) : Int) + 1) = ((2 * i + 2 : Nat) : Int) := by rw [wI (by omega)]; omega
  have hB : decide (((2 * i + 1 : Nat) : Int) < 0) = false := by rw [decide_eq_false_iff_not]; omega
  by_cases hlt : 2 * i + 1 < n
  · have hA : decide (((2 * i + 1 : Nat) : Int) ≥ (n : Int)) = false := by rw [decide_eq_false_iff_not]; omega
    by_cases h2 : 2 * i + 2 < n
    · have hC : decide (((2 * i + 2 : Nat) : Int) < (n : Int)) = true := by rw [decide_eq_true_eq]; omega
      simp only [vH, e1, e2, e3, hA, hB, hC, vcb, ↓evSo_some, ↓reduceIte, reduceCtorEq, seval]
      refine TR.gkeep (gc := true) [1, 2] (.d (.bool ((lessQ L) (r.getD (2 * i + 2) 0) (r.getD (2 * i + 1) 0)))) rfl (fun _ => valid_ivK hP rfl mLess uPl (sLess L r HL hLl (2 * i + 2) (2 * i + 1) (by omega) (by omega)) (fun _ => rfl) ⟨fun _ => rfl, fun _ => rfl, trivial⟩ rfl rfl (by decide)) ?_
      simp only [vcb, ↓evSo_some, ↓reduceIte, reduceCtorEq, seval]
      refine ⟨fun h => ?_, fun h => ?_⟩
      · have hk : kidL 0 (lessQ L) i n r = 2 * i + 2 := by rw [kidL, if_pos ⟨h2, h⟩]
        refine TR.keep [1, 2] (.d (.bool ((lessQ L) (r.getD (2 * i + 2) 0) (r.getD i 0)))) (valid_ivK hP rfl mLess uPl (sLess L r HL hLl (2 * i + 2) i (by omega) (by omega)) trivial (by repeat' first | exact trivial | (intro _; assumption) | apply And.intro) rfl rfl (by decide)) ?_
        simp only [vcb, ↓evSo_some, ↓reduceIte, reduceCtorEq, seval]
        refine ⟨fun h => ?_, fun h => ?_⟩
        · have hu : downL 0 (lessQ L) i n r = r := by rw [downL, dif_pos hlt, hk, if_neg (by simpa using h)]
          rw [hu] at he
          refine RetK.mk _ (Wk.refl _ _) (by simp only [rs61, rsb, vcb, ↓evSo_some, ↓reduceIte, reduceCtorEq, seval]) (VLe.un _) ?_
          simp only [he, enb, vcb, ↓evSo_some, ↓reduceIte, reduceCtorEq, seval]
        · have hu : downL 0 (lessQ L) i n r = downL 0 (lessQ L) (2 * i + 2) n (swp 0 r i (2 * i + 2)) := by
            rw [downL, dif_pos hlt, hk, if_pos (by simpa using h)]
          rw [hu] at he
          refine TR.iv hP [(1, .fix [.d (slX L), .osl 2]), (2, rowQ r)] [(1, .fix [.d (slX L), .osl 2]), (2, rowQ (swp 0 r i (2 * i + 2)))] _ [] rfl mSwap uPl (sSwap L r i (2 * i + 2) (by omega) (by omega)) trivial (by repeat' first | exact trivial | (intro _; assumption) | apply And.intro) (hin2 rfl rfl) (by simp [keysO]) (by simp) ?_
          simp only [vcb, ↓evSo_some, ↓reduceIte, reduceCtorEq, seval]
          exact lopK.on (2 * i + 2, swp 0 r i (2 * i + 2)) ⟨by rw [swp_len]; omega, by rw [swp_len]; exact hr, fun k hk => HL k ((swp_perm 0 (by omega) (by omega)).mem_iff.1 hk), he⟩ (by simp only; omega) (Wk.of _ hfn rfl (by simp only [vH, enb, vcb, ↓evSo_some, ↓reduceIte, reduceCtorEq, seval]) (by simp only [enb, vcb, ↓evSo_some, ↓reduceIte, reduceCtorEq, seval]))
      · have hk : kidL 0 (lessQ L) i n r = 2 * i + 1 := by rw [kidL, if_neg (fun g => by rw [h] at g; exact absurd g.2 (by simp))]
        refine TR.keep [1, 2] (.d (.bool ((lessQ L) (r.getD (2 * i + 1) 0) (r.getD i 0)))) (valid_ivK hP rfl mLess uPl (sLess L r HL hLl (2 * i + 1) i (by omega) (by omega)) trivial (by repeat' first | exact trivial | (intro _; assumption) | apply And.intro) rfl rfl (by decide)) ?_
        simp only [vcb, ↓evSo_some, ↓reduceIte, reduceCtorEq, seval]
        refine ⟨fun h => ?_, fun h => ?_⟩
        · have hu : downL 0 (lessQ L) i n r = r := by rw [downL, dif_pos hlt, hk, if_neg (by simpa using h)]
          rw [hu] at he
          refine RetK.mk _ (Wk.refl _ _) (by simp only [rs61, rsb, vcb, ↓evSo_some, ↓reduceIte, reduceCtorEq, seval]) (VLe.un _) ?_
          simp only [he, enb, vcb, ↓evSo_some, ↓reduceIte, reduceCtorEq, seval]
        · have hu : downL 0 (lessQ L) i n r = downL 0 (lessQ L) (2 * i + 1) n (swp 0 r i (2 * i + 1)) := by
            rw [downL, dif_pos hlt, hk, if_pos (by simpa using h)]
          rw [hu] at he
          refine TR.iv hP [(1, .fix [.d (slX L), .osl 2]), (2, rowQ r)] [(1, .fix [.d (slX L), .osl 2]), (2, rowQ (swp 0 r i (2 * i + 1)))] _ [] rfl mSwap uPl (sSwap L r i (2 * i + 1) (by omega) (by omega)) trivial (by repeat' first | exact trivial | (intro _; assumption) | apply And.intro) (hin2 rfl rfl) (by simp [keysO]) (by simp) ?_
          simp only [vcb, ↓evSo_some, ↓reduceIte, reduceCtorEq, seval]
          exact lopK.on (2 * i + 1, swp 0 r i (2 * i + 1)) ⟨by rw [swp_len]; omega, by rw [swp_len]; exact hr, fun k hk => HL k ((swp_perm 0 (by omega) (by omega)).mem_iff.1 hk), he⟩ (by simp only; omega) (Wk.of _ hfn rfl (by simp only [vH, enb, vcb, ↓evSo_some, ↓reduceIte, reduceCtorEq, seval]) (by simp only [enb, vcb, ↓evSo_some, ↓reduceIte, reduceCtorEq, seval]))
    · have hC : decide (((2 * i + 2 : Nat) : Int) < (n : Int)) = false := by rw [decide_eq_false_iff_not]; omega
      have hk : kidL 0 (lessQ L) i n r = 2 * i + 1 := by rw [kidL, if_neg (fun g => h2 g.1)]
      simp only [vH, e1, e2, e3, hA, hB, hC, vcb, ↓evSo_some, ↓reduceIte, reduceCtorEq, seval]
      refine TR.gkeep (gc := false) [] (.d (.bool false)) rfl (fun h => by cases h) ?_
      simp only [vcb, ↓evSo_some, ↓reduceIte, reduceCtorEq, seval]
      refine TR.keep [1, 2] (.d (.bool ((lessQ L) (r.getD (2 * i + 1) 0) (r.getD i 0)))) (valid_ivK hP rfl mLess uPl (sLess L r HL hLl (2 * i + 1) i (by omega) (by omega)) trivial (by repeat' first | exact trivial | (intro _; assumption) | apply And.intro) rfl rfl (by decide)) ?_
      simp only [vcb, ↓evSo_some, ↓reduceIte, reduceCtorEq, seval]
      refine ⟨fun h => ?_, fun h => ?_⟩
      · have hu : downL 0 (lessQ L) i n r = r := by rw [downL, dif_pos hlt, hk, if_neg (by simpa using h)]
        rw [hu] at he
        refine RetK.mk _ (Wk.refl _ _) (by simp only [rs61, rsb, vcb, ↓evSo_some, ↓reduceIte, reduceCtorEq, seval]) (VLe.un _) ?_
        simp only [he, enb, vcb, ↓evSo_some, ↓reduceIte, reduceCtorEq, seval]
      · have hu : downL 0 (lessQ L) i n r = downL 0 (lessQ L) (2 * i + 1) n (swp 0 r i (2 * i + 1)) := by
          rw [downL, dif_pos hlt, hk, if_pos (by simpa using h)]
        rw [hu] at he
        refine TR.iv hP [(1, .fix [.d (slX L), .osl 2]), (2, rowQ r)] [(1, .fix [.d (slX L), .osl 2]), (2, rowQ (swp 0 r i (2 * i + 1)))] _ [] rfl mSwap uPl (sSwap L r i (2 * i + 1) (by omega) (by omega)) trivial (by repeat' first | exact trivial | (intro _; assumption) | apply And.intro) (hin2 rfl rfl) (by simp [keysO]) (by simp) ?_
        simp only [vcb, ↓evSo_some, ↓reduceIte, reduceCtorEq, seval]
        exact lopK.on (2 * i + 1, swp 0 r i (2 * i + 1)) ⟨by rw [swp_len]; omega, by rw [swp_len]; exact hr, fun k hk => HL k ((swp_perm 0 (by omega) (by omega)).mem_iff.1 hk), he⟩ (by simp only; omega) (Wk.of _ hfn rfl (by simp only [vH, enb, vcb, ↓evSo_some, ↓reduceIte, reduceCtorEq, seval]) (by simp only [enb, vcb, ↓evSo_some, ↓reduceIte, reduceCtorEq, seval]))
  · have hA : decide (((2 * i + 1 : Nat) : Int) ≥ (n : Int)) = true := by rw [decide_eq_true_eq]; omega
    have hu : downL 0 (lessQ L) i n r = r := by rw [downL, dif_neg hlt]
    rw [hu] at he
    simp only [vH, e1, e2, e3, hA, hB, vcb, ↓evSo_some, ↓reduceIte, reduceCtorEq, seval]
    refine RetK.mk _ (Wk.refl _ _) (by simp only [rs61, rsb, vcb, ↓evSo_some, ↓reduceIte, reduceCtorEq, seval]) (VLe.un _) ?_
    simp only [he, enb, vcb, ↓evSo_some, ↓reduceIte, reduceCtorEq, seval]
theorem sLen3 (L : List Ls) (l : List Nat) : Ctr Try.prog 47 [.own 1 0] [(1, .fix [.d (slX L), .osl 3]), (3, rowQ l)] (.d (.int .i64 l.length)) [(1, .fix [.d (slX L), .osl 3]), (3, rowQ l)] [] := by
  have := (sLen L l).sw 2 3
  simpa only [rowQ, slX, vcb, ↓evSo_some, ↓reduceIte, reduceCtorEq, seval] using this
theorem sUp3 (L : List Ls) (hLl : L.length ≤ 1000000) (l : List Nat) (hL : ∀ k, k ∈ l → k < L.length) (j : Nat) (hj : j < l.length) (hl : l.length ≤ 1000000) :
    Ctr Try.prog 60 [vH, .d (.int .i64 j)] [(1, .fix [.d (slX L), .osl 3]), (3, rowQ l)] (.tup []) [(1, .fix [.d (slX L), .osl 3]), (3, rowQ (upL 0 (lessQ L) j l))] [] := by
  have := (sUp L hLl l hL j hj hl).sw 2 3
  simpa only [rowQ, vH, slX, vcb, ↓evSo_some, ↓reduceIte, reduceCtorEq, seval] using this
set_option maxHeartbeats 1000000 in
theorem sHPush (L : List Ls) (hLl : L.length ≤ 1000000) (l : List Nat) (hL : ∀ k, k ∈ l → k < L.length) (x : Nat) (hx : x < L.length) (hl : l.length ≤ 100000) :
    Ctr Try.prog 46 [vH, .ifc 3 (.d (.int .i64 x))] [(1, .fix [.d (slX L), .osl 2]), (2, rowQ l)] (.tup []) [(1, .fix [.d (slX L), .osl 3]), (3, rowQ (pushL 0 (lessQ L) l x))] [3] := by
  refine ctr_own Try.func46 ok46 rfl cc46 cr46 Try.ntmps46 (by simp [vH]) rfl ?_
  intro c hP hfn
  have e1 : IntKind.i64.wrap (((l ++ [x]).length : Int) - 1) = (l.length : Int) := by rw [wI (by simp; omega)]; simp
  simp only [kc46, namesL, V.names, ownNames, vH, vcb, ↓evSo_some, ↓reduceIte, reduceCtorEq, seval]
  refine TR.iv hP [(1, .fix [.d (slX L), .osl 2]), (2, rowQ l)] [(1, .fix [.d (slX L), .osl 3]), (3, rowQ (l ++ [x]))] _ [3] rfl mPush uPl (sPush L l x (by omega)) trivial (by repeat' first | exact trivial | (intro _; assumption) | apply And.intro) (hin2 rfl rfl) (by simp [keysO]) (by simp [rowQ, ownNames]) ?_
  simp only [vcb, ↓evSo_some, ↓reduceIte, reduceCtorEq, seval]
  refine TR.keep [1, 3] (.d (.int .i64 (l ++ [x]).length)) (valid_ivK hP rfl mLen uPl (sLen3 L (l ++ [x])) trivial (by repeat' first | exact trivial | (intro _; assumption) | apply And.intro) rfl rfl (by decide)) ?_
  simp only [e1, vcb, ↓evSo_some, ↓reduceIte, reduceCtorEq, seval]
  refine TR.call [(1, .fix [.d (slX L), .osl 3]), (3, rowQ (l ++ [x]))] [(1, .fix [.d (slX L), .osl 3]), (3, rowQ (upL 0 (lessQ L) l.length (l ++ [x])))] _ [] (by rw [hP]; exact sUp3 L hLl (l ++ [x]) (fun k hk => by rcases List.mem_append.1 hk with h | h; exact hL k h; simp at h; omega) l.length (by simp) (by simp; omega)) (by repeat' first | exact trivial | (intro _; assumption) | apply And.intro) (hin2 rfl rfl) (by simp [keysO]) (by simp) ?_
  simp only [vcb, ↓evSo_some, ↓reduceIte, reduceCtorEq, seval]
  refine RetK.mk' _ (Wk.refl _ _) (by simp only [rs46, rsb, vcb, ↓evSo_some, ↓reduceIte, reduceCtorEq, seval]) (by simp only [rs46, rsb, vcb, ↓evSo_some, ↓reduceIte, reduceCtorEq, seval, enb, vcb, ↓evSo_some, ↓reduceIte, reduceCtorEq, seval]) ?_
  simp only [pushL, enb, vcb, ↓evSo_some, ↓reduceIte, reduceCtorEq, seval]
set_option maxHeartbeats 1000000 in
theorem sHPop (L : List Ls) (hLl : L.length ≤ 1000000) (l : List Nat) (hL : ∀ k, k ∈ l → k < L.length) (h0 : 0 < l.length) (hl : l.length ≤ 100000) :
    Ctr Try.prog 48 [vH] [(1, .fix [.d (slX L), .osl 2]), (2, rowQ l)] (.ifc 3 (.d (.int .i64 ((popL 0 (lessQ L) l).getD (l.length - 1) 0 : Nat)))) [(1, .fix [.d (slX L), .osl 3]), (3, rowQ ((popL 0 (lessQ L) l).take (l.length - 1)))] [3] := by
  refine ctr_own Try.func48 ok48 rfl cc48 cr48 Try.ntmps48 (by simp [vH]) rfl ?_
  intro c hP hfn
  have e1 : IntKind.i64.wrap ((l.length : Int) - 1) = ((l.length - 1 : Nat) : Int) := by rw [wI (by omega)]; omega
  have hpl : (popL 0 (lessQ L) l).length = l.length := by rw [popL, downL_len, swp_len]
  have cS := sSwap L l 0 (l.length - 1) h0 (by omega)
  have cD := sHDn L hLl (swp 0 l 0 (l.length - 1)) (fun k hk => hL k ((swp_perm 0 (by omega) (by omega)).mem_iff.1 hk)) 0 (l.length - 1) (by rw [swp_len]; omega) (by rw [swp_len]; omega) (by rw [swp_len]; omega)
  have cP := sPop L (popL 0 (lessQ L) l) (by omega) (by omega)
  rw [hpl] at cP
  simp only [vH] at cD
  simp only [Int.natCast_zero] at cS cD
  simp only [kc48, namesL, V.names, ownNames, vH, vcb, ↓evSo_some, ↓reduceIte, reduceCtorEq, seval]
  refine TR.keep [1, 2] (.d (.int .i64 l.length)) (valid_ivK hP rfl mLen uPl (sLen L l) trivial (by repeat' first | exact trivial | (intro _; assumption) | apply And.intro) rfl rfl (by decide)) ?_
  simp only [e1, vcb, ↓evSo_some, ↓reduceIte, reduceCtorEq, seval]
  refine TR.iv hP [(1, .fix [.d (slX L), .osl 2]), (2, rowQ l)] [(1, .fix [.d (slX L), .osl 2]), (2, rowQ (swp 0 l 0 (l.length - 1)))] _ [] rfl mSwap uPl cS trivial (by repeat' first | exact trivial | (intro _; assumption) | apply And.intro) (hin2 rfl rfl) (by simp [keysO]) (by simp) ?_
  simp only [vcb, ↓evSo_some, ↓reduceIte, reduceCtorEq, seval]
  refine TR.call [(1, .fix [.d (slX L), .osl 2]), (2, rowQ (swp 0 l 0 (l.length - 1)))] [(1, .fix [.d (slX L), .osl 2]), (2, rowQ (popL 0 (lessQ L) l))] _ [] (by rw [hP]; exact cD) (by repeat' first | exact trivial | (intro _; assumption) | apply And.intro) (hin2 rfl rfl) (by simp [keysO]) (by simp) ?_
  simp only [vcb, ↓evSo_some, ↓reduceIte, reduceCtorEq, seval]
  refine TR.iv hP [(1, .fix [.d (slX L), .osl 2]), (2, rowQ (popL 0 (lessQ L) l))] [(1, .fix [.d (slX L), .osl 3]), (3, rowQ ((popL 0 (lessQ L) l).take (l.length - 1)))] _ [3] rfl mPop uPl cP trivial (by repeat' first | exact trivial | (intro _; assumption) | apply And.intro) (hin2 rfl rfl) (by simp [keysO]) (by simp [rowQ, ownNames]) ?_
  simp only [vcb, ↓evSo_some, ↓reduceIte, reduceCtorEq, seval]
  refine RetK.mk _ (Wk.refl _ _) (by simp only [rs48, rsb, vcb, ↓evSo_some, ↓reduceIte, reduceCtorEq, seval]) (by simp only [rs48, rsb, vcb, ↓evSo_some, ↓reduceIte, reduceCtorEq, seval, enb, vcb, ↓evSo_some, ↓reduceIte, reduceCtorEq, seval]) ?_
  simp only [enb, vcb, ↓evSo_some, ↓reduceIte, reduceCtorEq, seval]
end Go.Proofs.Ytkifajabiggfmaa
end
section
set_option linter.unusedSimpArgs false
set_option linter.unusedVariables false
namespace Go.Proofs.Ytkifajabiggfmaa
set_option linter.unusedSimpArgs false
set_option linter.unusedVariables false
open Go.Bx
set_option maxRecDepth 10000
def heapQ (L : List Ls) : List Nat := (List.range L.length).foldl (pushL 0 (lessQ L)) []
def ordQ (L : List Ls) : List Nat := drainL 0 (lessQ L) L.length (heapQ L)
theorem lessQ_iff (L : List Ls) (a b : Nat) : lessQ L a b = true ↔ dayQ L a < dayQ L b ∨ (dayQ L a = dayQ L b ∧ a < b) := by
  have hc : ∀ x y : Int, (x < y ∧ cmpI x y = -1) ∨ (x = y ∧ cmpI x y = 0) ∨ (y < x ∧ cmpI x y = 1) := fun x y => by
    unfold cmpI
    rcases Int.lt_trichotomy x y with h | h | h
    · exact .inl ⟨h, if_pos h⟩
    · exact .inr (.inl ⟨h, by rw [if_neg (by omega), if_neg (by omega)]⟩)
    · exact .inr (.inr ⟨h, by rw [if_neg (by omega), if_pos h]⟩)
  unfold lessQ cmpQ
  rcases hc (dayQ L a) (dayQ L b) with ⟨h1, h2⟩ | ⟨h1, h2⟩ | ⟨h1, h2⟩
  · rw [h2]; simp [h1]
  · rw [h2]
    rcases hc a b with ⟨g1, g2⟩ | ⟨g1, g2⟩ | ⟨g1, g2⟩ <;> rw [g2] <;> simp [h1] <;> omega
  · rw [h2]; simp; omega
theorem lessQ_false (L : List Ls) (a b : Nat) : lessQ L a b = false ↔ ¬ (dayQ L a < dayQ L b ∨ (dayQ L a = dayQ L b ∧ a < b)) := by
  rw [← lessQ_iff]; simp
theorem ordQ_ok (L : List Ls) : (ordQ L).Pairwise (fun a b => lessQ L b a = false) ∧ (ordQ L).Perm (List.range L.length) := by
  have := hsort_ok 0 (lessQ L) (fun a b c h1 h2 => by rw [lessQ_false] at *; omega) (fun a b h => by rw [lessQ_iff] at h; rw [lessQ_false]; omega) (fun a => by rw [lessQ_false]; omega) (List.range L.length)
  rw [List.length_range] at this
  exact this
theorem ordQ_len (L : List Ls) : (ordQ L).length = L.length := by have := (ordQ_ok L).2.length_eq; simpa using this
theorem ordQ_lt {L : List Ls} {k : Nat} (hk : k < L.length) : (ordQ L).getD k 0 < L.length := by
  have hk' : k < (ordQ L).length := by rw [ordQ_len]; exact hk
  rw [List.getD_eq_getElem?_getD, List.getElem?_eq_getElem hk', Option.getD_some]
  exact List.mem_range.1 ((ordQ_ok L).2.mem_iff.1 (List.getElem_mem hk'))
theorem sByDays (L : List Ls) : Ctr Try.prog 26 [.d (slX L)] [] (.fn (.func 45) [] [.mem [slX L]]) [] [] := by
  refine ctr_pure Try.func26 ok26 rfl cc26 cr26 Try.ntmps26 (by simp) rfl rfl ?_; intro c hP hfn; simp only [kc26, slX, vcb, ↓evSo_some, ↓reduceIte, reduceCtorEq, seval]
  exact RetK.mk _ (Wk.pubF 1 rfl rfl) (by simp only [rs26, rsb, vcb, ↓evSo_some, ↓reduceIte, reduceCtorEq, seval]) (by simp only [rs26, rsb, vcb, ↓evSo_some, ↓reduceIte, reduceCtorEq, seval, enb, vcb, ↓evSo_some, ↓reduceIte, reduceCtorEq, seval]) trivial
def qArgs (L : List Ls) (k : Nat) : List V := [.d (.int .i64 ((ordQ L).getD k 0 : Nat))]
theorem sPush7 (L : List Ls) (hLl : L.length ≤ 1000000) (l : List Nat) (hL : ∀ k, k ∈ l → k < L.length) (x : Nat) (hx : x < L.length) (hl : l.length ≤ 100000) :
    Ctr Try.prog 46 [.ifc 69 (.own 7 0), .ifc 3 (.d (.int .i64 x))] [(7, .fix [.d (slX L), .osl 900]), (900, rowQ l)] (.tup []) [(7, .fix [.d (slX L), .osl 901]), (901, rowQ (pushL 0 (lessQ L) l x))] [901] := by
  have := (((sHPush L hLl l hL x hx hl).sw 1 7).sw 2 900).sw 3 901
  simpa only [rowQ, vH, slX, vcb, ↓evSo_some, ↓reduceIte, reduceCtorEq, seval] using this
theorem sPop7 (L : List Ls) (hLl : L.length ≤ 1000000) (l : List Nat) (hL : ∀ k, k ∈ l → k < L.length) (h0 : 0 < l.length) (hl : l.length ≤ 100000) :
    Ctr Try.prog 48 [.ifc 69 (.own 7 0)] [(7, .fix [.d (slX L), .osl 900]), (900, rowQ l)] (.ifc 3 (.d (.int .i64 ((popL 0 (lessQ L) l).getD (l.length - 1) 0 : Nat)))) [(7, .fix [.d (slX L), .osl 901]), (901, rowQ ((popL 0 (lessQ L) l).take (l.length - 1)))] [901] := by
  have := (((sHPop L hLl l hL h0 hl).sw 1 7).sw 2 900).sw 3 901
  simpa only [rowQ, vH, slX, vcb, ↓evSo_some, ↓reduceIte, reduceCtorEq, seval] using this
theorem sLen7 (L : List Ls) (l : List Nat) : Ctr Try.prog 47 [.own 7 0] [(7, .fix [.d (slX L), .osl 900]), (900, rowQ l)] (.d (.int .i64 l.length)) [(7, .fix [.d (slX L), .osl 900]), (900, rowQ l)] [] := by
  have := ((sLen L l).sw 1 7).sw 2 900
  simpa only [rowQ, slX, vcb, ↓evSo_some, ↓reduceIte, reduceCtorEq, seval] using this
def heapP (L : List Ls) (k : Nat) : List Nat := (List.range k).foldl (pushL 0 (lessQ L)) []
theorem heapP_succ (L : List Ls) (k : Nat) : heapP L (k + 1) = pushL 0 (lessQ L) (heapP L k) k := by rw [heapP, List.range_succ, List.foldl_append]; rfl
theorem pushL_len {X : Type} (d : X) (less : X → X → Bool) (l : List X) (x : X) : (pushL d less l x).length = l.length + 1 := by rw [pushL, upL_len]; simp
theorem heapP_len (L : List Ls) : ∀ k, (heapP L k).length = k
  | 0 => rfl
  | k + 1 => by rw [heapP_succ, pushL_len, heapP_len L k]
theorem heapP_mem (L : List Ls) : ∀ k x, x ∈ heapP L k → x < k
  | 0, x, h => by simp [heapP] at h
  | k + 1, x, h => by
    rw [heapP_succ] at h
    have := (push_perm 0 (lessQ L) (heapP L k) k).mem_iff.1 h
    rcases List.mem_append.1 this with h | h
    · have := heapP_mem L k x h; omega
    · simp at h; omega
theorem popL_mem {less : Nat → Nat → Bool} {r : List Nat} (h0 : 0 < r.length) {x : Nat} (h : x ∈ (popL 0 less r).take (r.length - 1)) : x ∈ r := by
  have h1 := List.mem_of_mem_take h
  rw [popL] at h1
  have h2 := (downL_perm 0 less 0 (r.length - 1) (l := swp 0 r 0 (r.length - 1)) (by rw [swp_len]; omega)).mem_iff.1 h1
  exact (swp_perm 0 (by omega) (by omega)).mem_iff.1 h2
theorem it_byDays (L : List Ls) (hL : L.length ≤ 150) : IterC Try.prog 45 [.mem [slX L]] (qArgs L) L.length := by
  refine iter_of_vc Try.func45 ok45 rfl cc45 cr45 (by simp only [Try.ntmps45, List.length_cons, List.length_nil]; decide) rfl (fun _ => rfl) ?_
  intro c l T stop Z hP _ hZ hT hT' hY
  have hM : ∀ k n, n < 1000000 → (n ∈ List.map (fun x : Nat × Go.Bx.Own => x.fst) (Z k)) = False := fun k n hn => eq_false fun h => by have := hZ.ge k n h; omega
  have hge : ∀ k n o, (n, o) ∈ Z k → 1000000 ≤ n ∧ own? (Z k) n = some o := fun k n o hm => ⟨hZ.ge k n (mem_keys hm), mem_own? (hZ.nodup k) hm⟩
  simp only [kc45, slX, hM 0 7 (by decide), own?_setO, vcb, ↓evSo_some, ↓reduceIte, reduceCtorEq, seval]
  refine vcC.loop (X := Nat) (fun k => ⟨[(0, .fn (.yield l) [] []), (3, .own 7 0), (9, .d (.int .i64 L.length)), (10, .d (.int .i64 k))], [(7, .fix [.d (slX L), .osl 900]), (900, rowQ (heapP L k))] ++ Z 0, [7, 900] ++ keysO (Z 0)⟩)
    (fun k => k ≤ L.length) (fun k => L.length - k) 0 (Nat.zero_le _)
    ((Wk.row0F 7 1 900 3 1 (fun _ => []) (cs := [.d (slX L), .d (.sl true 0 0 fun _ => [])]) (by rw [own?_setO, if_pos rfl]; rfl) rfl (by simp [hM 0 900 (by decide)])).trans
      (Wk.ofZ hZ rfl 0 (own := [(7, .fix [.d (slX L), .osl 900]), (900, rowQ (heapP L 0))]) (nm := [7, 900]) rfl rfl (by simp only [slX, enb, vcb, ↓evSo_some, ↓reduceIte, reduceCtorEq, seval]) (by simp only [own?_setO, rowQ, slX, enb, vcb, ↓evSo_some, ↓reduceIte, reduceCtorEq, seval]; exact OLe.row rfl (fun i hi => absurd hi (Nat.not_lt_zero i)))
        (fun n o hm => by obtain ⟨h1, h2⟩ := hge 0 n o hm; rw [own?_setO, if_neg (by omega), own?_setO, if_neg (by omega), own?_setO, if_neg (by omega)]; exact h2))) ?_
  intro k hk
  simp only [rowQ, slX, vcb, ↓evSo_some, ↓reduceIte, reduceCtorEq, seval]
  have fixE : ∀ m : Nat, (Go.Bx.Own.fix [.d (slX L), .osl m]).ren (Go.Bx.sw 901 900) = .fix [.d (slX L), .osl (Go.Bx.sw 901 900 m)] := fun m => by simp [Go.Bx.Own.ren, renL, V.ren]
  refine ⟨fun h1 => ?_, fun h1 => ?_⟩
  · have hlt : k < L.length := by have := of_decide_eq_true h1; omega
    have cc := sPush7 L (by omega) (heapP L k) (fun x hx => by have := heapP_mem L k x hx; omega) k hlt (by rw [heapP_len]; omega)
    rw [← heapP_succ] at cc
    refine TR.call [(7, .fix [.d (slX L), .osl 900]), (900, rowQ (heapP L k))] [(7, .fix [.d (slX L), .osl 901]), (901, rowQ (heapP L (k + 1)))] _ [901] (by rw [hP]; exact cc) (by repeat' first | exact trivial | (intro _; assumption) | apply And.intro) (hin2 rfl rfl) (by simp [keysO]) (fun n hn => by rcases List.mem_singleton.1 hn with rfl; simp only [List.mem_cons, hM 0 _ (by decide : (901 : Nat) < 1000000), or_false]; decide) ?_
    simp only [vcb, ↓evSo_some, ↓reduceIte, reduceCtorEq, seval]
    refine lopK.on (k + 1) hlt (by omega) (Wk.rnZ hZ rfl 0 901 900 (by decide) (by decide) (own := [(7, .fix [.d (slX L), .osl 900]), (900, rowQ (heapP L (k + 1)))]) (nm := [7, 900]) rfl rfl ?_ ?_ ?_)
    · simp only [slX, enb, vcb, ↓evSo_some, ↓reduceIte, reduceCtorEq, seval]; exact wS (by omega)
    · simp only [OwnLeS, own?_setO, rowQ, slX, enb, vcb, ↓evSo_some, ↓reduceIte, reduceCtorEq, seval]
    · intro n o hm; obtain ⟨h1, h2⟩ := hge 0 n o hm; simp only [applyU, callU, List.map_cons, List.map_nil, List.cons_append, List.nil_append, delO, if_true]; rw [own?_setO, if_neg (by omega), own?_setO, if_neg (by omega)]; exact h2
  · have hkl : k = L.length := by have := of_decide_eq_false h1; omega
    subst hkl
    refine vcC.loop (X := Nat × List Nat) (fun x => ⟨[(0, .fn (.yield l) [] []), (3, .own 7 0)], [(7, .fix [.d (slX L), .osl 900]), (900, rowQ x.2)] ++ Z x.1, [7, 900] ++ keysO (Z x.1)⟩)
      (fun x => x.1 ≤ L.length ∧ x.2.length = L.length - x.1 ∧ (∀ y, y ∈ x.2 → y < L.length) ∧ drainL 0 (lessQ L) (L.length - x.1) x.2 = (ordQ L).drop x.1 ∧ x.1 ≤ T ∧ (stop = true → x.1 < T)) (fun x => L.length - x.1) (0, heapP L L.length)
      ⟨Nat.zero_le _, heapP_len L _, heapP_mem L _, rfl, Nat.zero_le _, fun h => (hT' h).1⟩
      (Wk.ofZ hZ rfl 0 (own := [(7, .fix [.d (slX L), .osl 900]), (900, rowQ (heapP L L.length))]) (nm := [7, 900]) rfl rfl (by simp only [slX, enb, vcb, ↓evSo_some, ↓reduceIte, reduceCtorEq, seval]) (by simp only [rowQ, slX, enb, vcb, ↓evSo_some, ↓reduceIte, reduceCtorEq, seval]) (fun n o hm => by obtain ⟨h1, h2⟩ := hge 0 n o hm; simp only [own?]; rw [if_neg (by omega), if_neg (by omega)]; exact h2)) ?_
    rintro ⟨k, r⟩ ⟨hk, hr, hm, hd, hkT, hks⟩
    simp only at hk hr hm hd hkT hks
    simp only [rowQ, slX, vcb, ↓evSo_some, ↓reduceIte, reduceCtorEq, seval]
    have hin := hin2 (own := [(7, Go.Bx.Own.fix [.d (slX L), .osl 900]), (900, rowQ r)] ++ Z k) (k1 := 7) (k2 := 900) rfl rfl
    refine TR.keep [7, 900] (.d (.int .i64 r.length)) (valid_keep (valid_call (by rw [hP]; exact sLen7 L r) (by repeat' first | exact trivial | (intro _; assumption) | apply And.intro) hin (by simp [keysO])) hin (fun k hk => hk) (by simp [keysO])) ?_
    simp only [vcb, ↓evSo_some, ↓reduceIte, reduceCtorEq, seval]
    refine ⟨fun h1 => ?_, fun h1 => ?_⟩
    · have h0 : 0 < r.length := by have := of_decide_eq_true h1; omega
      obtain ⟨m, hm1⟩ : ∃ m, L.length - k = m + 1 := ⟨L.length - k - 1, by omega⟩
      rw [hm1, drainL] at hd
      have hkl : k < L.length := by omega
      obtain ⟨y, hdy, hgy, -, -⟩ := drop_at (l := ordQ L) (k := k) (by
        have := congrArg List.length hd
        simp at this; omega)
      rw [hdy] at hd
      injection hd with hd1 hd2
      have hlt : k < T := by
        cases hst : stop with
        | true => exact hks hst
        | false => rw [hT hst]; exact hkl
      have cc := sPop7 L (by omega) r hm h0 (by omega)
      rw [hd1] at cc
      have hyv : (ordQ L).getD k 0 = y := hgy 0
      refine TR.call [(7, .fix [.d (slX L), .osl 900]), (900, rowQ r)] [(7, .fix [.d (slX L), .osl 901]), (901, rowQ ((popL 0 (lessQ L) r).take (r.length - 1)))] _ [901] (by rw [hP]; exact cc) (by repeat' first | exact trivial | (intro _; assumption) | apply And.intro) hin (by simp [keysO]) (fun n hn => by rcases List.mem_singleton.1 hn with rfl; simp only [List.mem_cons, hM k _ (by decide : (901 : Nat) < 1000000), or_false]; decide) ?_
      simp only [vcb, ↓evSo_some, ↓reduceIte, reduceCtorEq, seval]
      refine TR.wk _ (Wk.rnZ hZ rfl k 901 900 (by decide) (by decide) (env := [(22, .fn (.yield l) [] []), (26, .d (.int .i64 (y : Int))), (0, .fn (.yield l) [] []), (3, .own 7 0)]) (own := [(7, .fix [.d (slX L), .osl 900]), (900, rowQ ((popL 0 (lessQ L) r).take (r.length - 1)))]) (nm := [7, 900]) rfl rfl ?_ ?_ ?_) ?_
      · simp only [slX, enb, vcb, ↓evSo_some, ↓reduceIte, reduceCtorEq, seval]
      · simp only [OwnLeS, own?_setO, rowQ, slX, enb, vcb, ↓evSo_some, ↓reduceIte, reduceCtorEq, seval]
      · intro n o hm; obtain ⟨h1, h2⟩ := hge k n o hm; simp only [applyU, callU, List.map_cons, List.map_nil, List.cons_append, List.nil_append, delO, if_true]; rw [own?_setO, if_neg (by omega), own?_setO, if_neg (by omega)]; exact h2
      · refine TR.yield hZ rfl (hY k hlt) (own := [(7, .fix [.d (slX L), .osl 900]), (900, rowQ ((popL 0 (lessQ L) r).take (r.length - 1)))]) (nm := [7, 900]) rfl rfl rfl trivial (by simp only [qArgs, hyv, vcb, ↓evSo_some, ↓reduceIte, reduceCtorEq, seval]) (by simp only [vcb, ↓evSo_some, ↓reduceIte, reduceCtorEq, seval]) ?_
        simp only [vcb, ↓evSo_some, ↓reduceIte, reduceCtorEq, seval]
        have hZo : ∀ (j : Nat) (a b : Go.Bx.Own), OwnLe ((7, a) :: (900, b) :: Z j) (Z j) := fun j a b => OwnLe.of fun n o hm => by
          obtain ⟨h1, h2⟩ := hge j n o hm
          refine ⟨o, ?_, OLe.refl o⟩
          simp only [own?]; rw [if_neg (by omega), if_neg (by omega)]; exact h2
        refine ⟨fun hg => ?_, fun hg => ?_⟩
        · have hT1 : T = k + 1 := by
            simp [goAt] at hg
            have := hks hg.2
            omega
          subst hT1
          exact IterK.mk _ (Wk.refl _ _) (hZo _ _ _)
        · have hg' : k + 1 < T ∨ stop = false := by
            simp [goAt] at hg
            by_cases h9 : k + 1 < T
            · exact .inl h9
            · exact .inr (hg (by omega))
          have hlen : ((popL 0 (lessQ L) r).take (r.length - 1)).length = r.length - 1 := by
            rw [List.length_take, popL, downL_len, swp_len]; omega
          refine lopK.on (k + 1, (popL 0 (lessQ L) r).take (r.length - 1)) ⟨hkl, by rw [hlen]; simp only; omega, fun x hx => hm x (popL_mem h0 hx), ?_, hlt, fun h => hg'.resolve_right (by rw [h]; simp)⟩ (by simp only; omega) (Wk.ofZ hZ rfl (k + 1) (own := [(7, .fix [.d (slX L), .osl 900]), (900, rowQ ((popL 0 (lessQ L) r).take (r.length - 1)))]) (nm := [7, 900]) rfl rfl (by simp only [slX, enb, vcb, ↓evSo_some, ↓reduceIte, reduceCtorEq, seval]) (by simp only [rowQ, slX, enb, vcb, ↓evSo_some, ↓reduceIte, reduceCtorEq, seval]) (fun n o hm => by obtain ⟨h1, h2⟩ := hge (k + 1) n o hm; simp only [own?]; rw [if_neg (by omega), if_neg (by omega)]; exact h2))
          simp only
          rw [show L.length - (k + 1) = m by omega]
          exact hd2
    · have h0 : r.length = 0 := by have := of_decide_eq_false h1; omega
      have hkl : k = L.length := by omega
      have hst : stop = false := by
        cases hst : stop with
        | false => rfl
        | true => have := hks hst; have := (hT' hst).2; omega
      have hTk : T = k := by rw [hT hst, hkl]
      subst hTk
      refine IterK.mk' _ (Wk.refl _ _) (OwnLe.of fun n o hm => ?_)
      obtain ⟨h1, h2⟩ := hge T n o hm
      refine ⟨o, ?_, OLe.refl o⟩
      simp only [own?]; rw [if_neg (by omega), if_neg (by omega)]; exact h2
end Go.Proofs.Ytkifajabiggfmaa
end
section
set_option linter.unusedSimpArgs false
set_option linter.unusedVariables false
namespace Go.Proofs.Ytkifajabiggfmaa
set_option linter.unusedSimpArgs false
set_option linter.unusedVariables false
open Go.Bx
set_option maxRecDepth 10000
structure GrS where
  G : List (List Int)
  op : Int
def grStep (L : List Ls) (days : Int) (y : Nat) (s : GrS) : GrS :=
  if s.G.length = 0 ∨ max 1 days ≤ IntKind.i64.wrap (dayQ L y - s.op) then ⟨s.G ++ [[(y : Int)]], dayQ L y⟩
  else ⟨s.G.set (s.G.length - 1) (s.G.getD (s.G.length - 1) [] ++ [(y : Int)]), s.op⟩
def grRun (L : List Ls) (days : Int) : Nat → GrS
  | 0 => ⟨[], 0⟩
  | k + 1 => grStep L days ((ordQ L).getD k 0) (grRun L days k)
def groupT (L : List Ls) (days : Int) : List (List Int) := (grRun L days L.length).G
structure GrI (k : Nat) (s : GrS) : Prop where
  len : s.G.length ≤ k
  each : ∀ g, g ∈ s.G → 1 ≤ g.length ∧ g.length ≤ k
theorem GrI.step {L : List Ls} {days : Int} {k : Nat} {s : GrS} (h : GrI k s) (y : Nat) : GrI (k + 1) (grStep L days y s) := by
  unfold grStep
  split
  · refine ⟨by simp; have := h.len; omega, fun g hg => ?_⟩
    rcases List.mem_append.1 hg with h1 | h1
    · have := h.each g h1; omega
    · simp at h1; subst h1; simp
  · rename_i hc
    have hlt : s.G.length - 1 < s.G.length := by omega
    refine ⟨by simp; have := h.len; omega, fun g hg => ?_⟩
    rcases List.mem_or_eq_of_mem_set hg with h1 | h1
    · have := h.each g h1; omega
    · subst h1
      have h2 := h.each _ (List.getElem_mem hlt)
      rw [List.getD_eq_getElem?_getD, List.getElem?_eq_getElem hlt, List.length_append, List.length_singleton, Option.getD_some]
      omega
theorem grRun_ok (L : List Ls) (days : Int) : ∀ k, GrI k (grRun L days k)
  | 0 => ⟨Nat.le_refl _, fun g hg => by simp [grRun] at hg⟩
  | k + 1 => (grRun_ok L days k).step _
def grO (L : List Ls) (days : Int) (s : GrS) : List (Nat × Go.Bx.Own) :=
  (1000, .lit 32 1 s.G.length (nestC 0 cI 5000 1 1 0 s.G)) :: ([(2, .fix [.d (slX L)]), (3, .fix [.d (.int .i64 days)]), (5, .fix [.osl 1000]), (6, .fix [.d (.int .i64 s.op)])] ++ nestO 0 cI 5000 1 3 1 0 s.G)
def grE (L : List Ls) : List (Nat × V) := [(2, .own 2 0), (3, .own 3 0), (5, .own 5 0), (6, .own 6 0), (10, .fn (.func 45) [] [.mem [slX L]])]
def grE1 (y : Nat) : List (Nat × V) := [(7, .d (.int .i64 (y : Int))), (2, .own 2 0), (3, .own 3 0), (5, .own 5 0), (6, .own 6 0)]
theorem gr_keys (L : List Ls) (days : Int) (s : GrS) : keysO (grO L days s) = 1000 :: 2 :: 3 :: 5 :: 6 :: keysO (nestO 0 cI 5000 1 3 1 0 s.G) := by simp [grO, keysO]
theorem gr_cli (L : List Ls) (days : Int) (S : Nat → GrS) : CliO [2, 3, 5, 6] (fun k => grO L days (S k)) := by
  refine ⟨fun k => ?_, fun k n hn => ?_, fun k n hn => ?_⟩
  · have hk : ∀ n, n ∈ keysO (nestO 0 cI 5000 1 3 1 0 (S k).G) → 5000 ≤ n := fun n h => (nestO_key h).1
    rw [gr_keys]
    simp only [List.nodup_cons, List.mem_cons, not_or]
    refine ⟨⟨by decide, by decide, by decide, by decide, fun h => ?_⟩, ⟨by decide, by decide, by decide, fun h => ?_⟩, ⟨by decide, by decide, fun h => ?_⟩, ⟨by decide, fun h => ?_⟩, fun h => ?_, nestO_nodup⟩ <;> have := hk _ h <;> omega
  · simp only [gr_keys, List.mem_cons]
    simp only [grO, ownNames, namesL, V.names, List.cons_append, List.nil_append, List.mem_cons, List.mem_append] at hn
    rcases hn with h | h | h | h | h | h | h | h
    · exact .inl h
    · exact .inr (.inr (.inr (.inr (.inr (nest_names h)))))
    · exact .inr (.inl h)
    · exact .inr (.inr (.inl h))
    · exact .inr (.inr (.inr (.inl h)))
    · exact .inl h
    · exact .inr (.inr (.inr (.inr (.inl h))))
    · exact .inr (.inr (.inr (.inr (.inr (nest_own h)))))
  · simp only [gr_keys, List.mem_cons]
    simp only [List.mem_cons, List.not_mem_nil, or_false] at hn
    rcases hn with h | h | h | h
    · exact .inr (.inl h)
    · exact .inr (.inr (.inl h))
    · exact .inr (.inr (.inr (.inl h)))
    · exact .inr (.inr (.inr (.inr (.inl h))))
theorem Wk.gr {c : Ctx} {st : St} {L : List Ls} {days : Int} {s : GrS} (x y : Nat) (hx : x ∉ [2, 3, 5, 6]) (hy : y ∉ [2, 3, 5, 6]) (hfn : c.fn = [2, 3, 5, 6])
    (hA : OwnLeS (Go.Bx.sw x y) st.own [(2, .fix [.d (slX L)]), (3, .fix [.d (.int .i64 days)]), (5, .fix [.osl 1000]), (6, .fix [.d (.int .i64 s.op)])])
    (hl : ∃ o', own? st.own (Go.Bx.sw x y 1000) = some o' ∧ OLe (o'.ren (Go.Bx.sw x y)) (.lit 32 1 s.G.length (nestC 0 cI 5000 1 1 0 s.G)))
    (hi : ∀ i g, s.G[i]? = some g → 1 < g.length → ∃ o', own? st.own (Go.Bx.sw x y (5000 + i)) = some o' ∧ OLe (o'.ren (Go.Bx.sw x y)) (.row 3 1 g.length (fun j => cI (g.getD j 0)))) : Wk c st ⟨[], grO L days s, keysO (grO L days s)⟩ :=
  (Wk.nest (dx := 0) (cells := cI) (K := 5000) (K' := 1000) (τ := 1) (e' := 32) (e := 3) (sz := 1) (G := s.G) x y [2, 3, 5, 6] hfn hx hy (env := []) (A := [(2, .fix [.d (slX L)]), (3, .fix [.d (.int .i64 days)]), (5, .fix [.osl 1000]), (6, .fix [.d (.int .i64 s.op)])]) (N := [1000, 2, 3, 5, 6]) rfl rfl trivial hA hl hi).trans
    (Wk.nmK ((gr_cli L days (fun _ => s)).nodup 0) ((gr_cli L days (fun _ => s)).names 0) (fun n hn => (gr_cli L days (fun _ => s)).fx 0 n (hfn ▸ hn)))
set_option maxHeartbeats 4000000 in
theorem sGroup (L : List Ls) (days : Int) (hL : L.length ≤ 150) : Ctr Try.prog 13 [.d (slX L), .d (.int .i64 days)] [] (.d (.sl false 1 (groupT L days).length (nestD 0 cI 1 (groupT L days)))) [] [] := by
  refine ctr_pureL Try.func13 ok13 rfl cc13 cr13 Try.ntmps13 (by simp) rfl rfl ?_; intro c hP hfn hrd; simp only [kc13, slX, vcb, ↓evSo_some, ↓reduceIte, reduceCtorEq, seval]
  have cb := sByDays L
  simp only [slX] at cb
  repeat' first
      | (first
          | refine TR.p hP (by first | exact cb) (by repeat' first | exact trivial | (intro _; assumption) | apply And.intro) ?_
          | refine TR.gp hP rfl (fun _ => by first | exact cb) (fun _ => by repeat' first | exact trivial | (intro _; assumption) | apply And.intro) ?_
          | refine TR.pv hP rfl (by first | exact cb) trivial (by repeat' first | exact trivial | (intro _; assumption) | apply And.intro) ?_
         try simp only [vcb, ↓evSo_some, ↓reduceIte, reduceCtorEq, seval])
      | refine And.intro (fun h => ?_) (fun h => ?_)
      | refine And.intro (by first | omega | (simp only [maxLen, decide_eq_true_eq, decide_eq_false_iff_not] at *; omega)) ?_
      | (refine TR.aslO rfl rfl rfl rfl trivial (Nat.le_of_ble_eq_true rfl) ?_
         try simp only [vcb, ↓evSo_some, ↓reduceIte, reduceCtorEq, seval])
      | refine And.intro trivial ?_
      | refine And.intro rfl ?_
      | fail
  have hI := it_byDays L hL
  rw [← hP] at hI
  refine vcC.rfnAll hI (grE L) [2, 3, 5, 6] (fun k => grO L days (grRun L days k)) (fun k => grO L days (grRun L days k)) (fun k => grE1 ((ordQ L).getD k 0)) ?_ rfl trivial ⟨hrd, gr_cli L days _, gr_cli L days _, fun n hn => (by rw [hfn] at hn; cases hn), fun s n hn => ?_, rfl, fun _ => rfl, fun _ => rfl, fun _ => rfl, fun h => absurd rfl h, fun h => (by cases h)⟩ ?_ ?_ ?_
  · refine (Wk.row0F 5 0 1000 32 1 (fun _ => []) rfl rfl (by simp)).trans (Wk.of (b := ⟨grE L, grO L days ⟨[], 0⟩, [1000, 2, 3, 5, 6]⟩) _ hfn rfl ?_ ?_)
    · simp only [grE, slX, enb, vcb, ↓evSo_some, ↓reduceIte, reduceCtorEq, seval]
    · simp only [grO, slX, nestC, nestO, enb, vcb, ↓evSo_some, ↓reduceIte, reduceCtorEq, seval]; exact OLe.rowLit rfl
  · have : ∀ (l : List (Nat × V)), (∀ s y, (s, y) ∈ l → ∀ n, n ∈ y.names → n ∈ [2, 3, 5, 6]) → n ∈ (Go.Bx.get l s).names → n ∈ [2, 3, 5, 6] := by
      intro l
      induction l with
      | nil => intro _ h; simp [Go.Bx.get, V.names] at h
      | cons p l ih =>
        obtain ⟨s', y⟩ := p
        intro hl h
        simp only [Go.Bx.get] at h
        split at h
        · exact hl s' y (by simp) n h
        · exact ih (fun s y hm => hl s y (by simp [hm])) h
    refine this (grE L) (fun s y hm n hn => ?_) hn
    simp only [grE, List.mem_cons, Prod.mk.injEq, List.not_mem_nil, or_false] at hm
    rcases hm with ⟨rfl, rfl⟩ | ⟨rfl, rfl⟩ | ⟨rfl, rfl⟩ | ⟨rfl, rfl⟩ | ⟨rfl, rfl⟩ <;> simp [V.names, namesL] at hn ⊢ <;> simp [hn]
  · intro k hk cB hPB hfB
    simp only [setPs, qArgs, vcb, ↓evSo_some, ↓reduceIte, reduceCtorEq, seval]
    exact Wk.envLe (by simp only [grE, grE1, slX, enb, vcb, ↓evSo_some, ↓reduceIte, reduceCtorEq, seval])
  · intro k hk cB hPB hfB
    have hstep : grRun L days (k + 1) = grStep L days ((ordQ L).getD k 0) (grRun L days k) := rfl
    have hy := ordQ_lt hk
    have hGI := grRun_ok L days k
    simp only [hstep]
    generalize grRun L days k = s at *
    generalize (ordQ L).getD k 0 = y at *
    clear hstep
    have hK : ∀ n, n < 5000 → (n ∈ List.map (fun x : Nat × Go.Bx.Own => x.fst) (nestO 0 cI 5000 1 3 1 0 s.G)) = False := fun n hn => eq_false fun h => by have := (nestO_key h).1; omega
    have hl2 := hGI.len
    have hb1 : (0 : Int) ≤ (y : Int) ∧ (y : Int) < L.length := by omega
    have hfin0 := @Wk.gr cB
    by_cases hn0 : s.G.length = 0 ∨ max 1 days ≤ IntKind.i64.wrap (dayQ L y - s.op)
    · 
      have hes : grStep L days y s = ⟨s.G ++ [[(y : Int)]], dayQ L y⟩ := by rw [grStep, if_pos hn0]
      rw [hes]
      have hc : (((s.G.length : Int) == 0) || decide (IntKind.i64.wrap ((L.getD y default).day - s.op) ≥ max 1 days)) = true := by
        rw [Bool.or_eq_true, beq_iff_eq, decide_eq_true_eq]
        rcases hn0 with h | h
        · exact .inl (by omega)
        · exact .inr h
      have hwk : ∀ st : St, OwnLeS (Go.Bx.sw 37 1000) st.own [(2, .fix [.d (slX L)]), (3, .fix [.d (.int .i64 days)]), (5, .fix [.osl 1000]), (6, .fix [.d (.int .i64 (dayQ L y))])] →
          (∃ v, own? st.own 37 = some (.lit 32 1 (s.G.length + 1) (nestC 0 cI 5000 1 1 0 s.G ++ [.d v])) ∧ VLe (.d v) (.d (.sl true 1 1 (fun j => cI ([(y : Int)].getD j 0))))) → (∀ j g, s.G[j]? = some g → 1 < g.length → own? st.own (5000 + j) = some (.row 3 1 g.length (fun j => cI (g.getD j 0)))) →
          Wk cB st ⟨[], grO L days ⟨s.G ++ [[(y : Int)]], dayQ L y⟩, keysO (grO L days ⟨s.G ++ [[(y : Int)]], dayQ L y⟩)⟩ := by
        rintro st q1 ⟨v, q2, q3⟩ q4
        refine Wk.gr 37 1000 (by decide) (by decide) hfB q1 ⟨_, by rw [show Go.Bx.sw 37 1000 1000 = 37 by decide]; exact q2, ?_⟩ (fun j g hg1 hg2 => ?_)
        · have hp := nest_ren (dx := (0 : Int)) (cells := cI) (K := 5000) (τ := 1) (sz := 1) (i := 0) (G := s.G) (show 37 < 5000 by decide) (show 1000 < 5000 by decide)
          simp only [Own.ren, renL_app, hp, nestC_app, List.length_append, List.length_singleton, nestC, renL, V.ren, Nat.le_refl, if_true]
          exact OLe.lits (VsLe.snoc q3 _)
        · have hj : s.G[j]? = some g := by
            by_cases e : j < s.G.length
            · rwa [List.getElem?_append_left e] at hg1
            · rw [List.getElem?_append_right (by omega)] at hg1
              have : j - s.G.length = 0 := by
                by_cases e0 : j - s.G.length = 0
                · exact e0
                · rw [List.getElem?_eq_none (by simp; omega)] at hg1; cases hg1
              rw [this] at hg1
              simp at hg1; subst hg1; simp at hg2
          refine ⟨_, by rw [show Go.Bx.sw 37 1000 (5000 + j) = 5000 + j by unfold Go.Bx.sw; rw [if_neg (by omega), if_neg (by omega)]]; exact q4 j g hj hg2, OLe.refl _⟩
      simp only [grO, grE1, slX, hK 35 (by decide), hK 36 (by decide), hK 37 (by decide), hc, own?_setO, own?_nestD, vcb, ↓evSo_some, ↓reduceIte, reduceCtorEq, seval]
      refine ⟨fun _ => hb1, rfl, hb1, ⟨by omega, by simp only [maxLen]; omega⟩, rfl, hwk _ ?_ ⟨_, by simp only [own?_setO, own?_nestD, own?_delSet, own?_delSet2, ne_lo, ne_hi, enb, vcb, ↓evSo_some, ↓reduceIte, reduceCtorEq, seval]; rfl, ?_⟩ fun j g hj hg2 => ?_⟩
      · simp only [OwnLeS, slX, dayQ, own?_setO, own?_nestD, own?_delSet, own?_delSet2, ne_lo, ne_hi, enb, vcb, ↓evSo_some, ↓reduceIte, reduceCtorEq, seval]
      · refine VLe.sl rfl (fun _ => rfl) id (fun q hq => ?_)
        have : q = 0 := by omega
        subst this; simp [cI, litRow]
      · simp only [own?_setO, own?_nestD, own?_delSet, own?_delSet2, ne_lo, ne_hi, nest_at hj hg2, enb, vcb, ↓evSo_some, ↓reduceIte, reduceCtorEq, seval]
    · 
      obtain ⟨i, hi⟩ : ∃ i, s.G.length = i + 1 := ⟨s.G.length - 1, by omega⟩
      have hil : i < s.G.length := by omega
      have ew : IntKind.i64.wrap ((s.G.length : Int) - 1) = (i : Int) := by rw [wI (by omega)]; omega
      have hgi : s.G[i]? = some s.G[i] := List.getElem?_eq_getElem hil
      have hgd : s.G.getD (s.G.length - 1) [] = s.G[i] := by rw [show s.G.length - 1 = i by omega, List.getD_eq_getElem?_getD, hgi]; rfl
      have hge := hGI.each _ (List.getElem_mem hil)
      have hes : grStep L days y s = ⟨s.G.set i (s.G[i] ++ [(y : Int)]), s.op⟩ := by
        rw [grStep, if_neg hn0, hgd, show s.G.length - 1 = i by omega]
      rw [hes]
      have hc : (((s.G.length : Int) == 0) || decide (IntKind.i64.wrap ((L.getD y default).day - s.op) ≥ max 1 days)) = false := by
        rw [Bool.or_eq_false_iff, beq_eq_false_iff_ne, decide_eq_false_iff_not]
        exact ⟨by omega, fun h => hn0 (.inr h)⟩
      clear hes hgd
      generalize s.G[i] = g at *
      have hnth := nestC_nth (dx := (0 : Int)) (cells := cI) (K := 5000) (τ := 1) (sz := 1) (i := 0) hgi
      rw [Nat.zero_add] at hnth
      have hwk : ∀ st : St, OwnLeS (Go.Bx.sw 48 (5000 + i)) st.own [(2, .fix [.d (slX L)]), (3, .fix [.d (.int .i64 days)]), (5, .fix [.osl 1000]), (6, .fix [.d (.int .i64 s.op)])] →
          own? st.own 1000 = some (.lit 32 1 s.G.length (putV (nestC 0 cI 5000 1 1 0 s.G) i [.osl 48])) →
          (∃ n F, own? st.own 48 = some (.row 3 1 n F) ∧ n = g.length + 1 ∧ ∀ q, q < g.length + 1 → F q = cI ((g ++ [(y : Int)]).getD q 0)) →
          (∀ j, j ≠ i → own? st.own (5000 + j) = own? (nestO 0 cI 5000 1 3 1 0 s.G) (5000 + j)) →
          Wk cB st ⟨[], grO L days ⟨s.G.set i (g ++ [(y : Int)]), s.op⟩, keysO (grO L days ⟨s.G.set i (g ++ [(y : Int)]), s.op⟩)⟩ := by
        intro st q1 q3 q4 q5
        obtain ⟨n, F, q6, rfl, q7⟩ := q4
        have hsw : Go.Bx.sw 48 (5000 + i) 1000 = 1000 := by simp only [Go.Bx.sw, ne_lo, ne_hi, enb, vcb, ↓evSo_some, ↓reduceIte, reduceCtorEq, seval]
        refine Wk.gr 48 (5000 + i) (by decide) (by simp; omega) hfB q1 ⟨_, by rw [hsw]; exact q3, ?_⟩ (fun j g' hg1 hg2 => ?_)
        · have hp := putV_nest (dx := (0 : Int)) (cells := cI) (K := 5000) (τ := 1) (sz := 1) (i0 := 0) (i := i) (g := g ++ [(y : Int)]) hil (by simp; omega) 48
          rw [if_pos (by decide), Nat.zero_add] at hp
          simp only [Own.ren, hp, List.length_set]
          exact OLe.refl _
        · by_cases e : j = i
          · subst e
            rw [List.getElem?_set_self hil] at hg1
            cases hg1
            have hsj : Go.Bx.sw 48 (5000 + j) (5000 + j) = 48 := by unfold Go.Bx.sw; rw [if_neg (by omega), if_pos rfl]
            refine ⟨.row 3 1 (g.length + 1) F, by rw [hsj]; exact q6, ?_⟩
            exact OLe.row (by simp) q7
          · rw [List.getElem?_set_ne (fun g => e g.symm)] at hg1
            refine ⟨_, by rw [show Go.Bx.sw 48 (5000 + i) (5000 + j) = 5000 + j by unfold Go.Bx.sw; rw [if_neg (by omega), if_neg (by omega)], q5 j e]; exact nest_at hg1 hg2, OLe.refl _⟩
      by_cases hg1 : g.length ≤ 1
      · rw [if_pos hg1] at hnth
        have hg0 : g.length = 1 := by omega
        simp only [grO, grE1, slX, ew, hnth, hg0, hK 47 (by decide), hK 48 (by decide), hc, own?_setO, own?_nestD, own?_delSet, own?_delSet2, ne_lo, ne_hi, vcb, ↓evSo_some, ↓reduceIte, reduceCtorEq, seval]
        refine ⟨fun _ => hb1, rfl, ⟨by omega, by omega⟩, hil, by simp only [maxLen]; omega, ⟨by omega, by omega⟩, hil, rfl, rfl, hwk _ ?_ ?_ ⟨_, _, by simp only [own?_setO, own?_nestD, own?_delSet, own?_delSet2, ne_lo, ne_hi, enb, vcb, ↓evSo_some, ↓reduceIte, reduceCtorEq, seval]; rfl, by omega, ?_⟩ fun j hj => ?_⟩
        · simp only [OwnLeS, slX, dayQ, own?_setO, own?_nestD, own?_delSet, own?_delSet2, ne_lo, ne_hi, enb, vcb, ↓evSo_some, ↓reduceIte, reduceCtorEq, seval]
        · simp only [own?_setO, own?_nestD, own?_delSet, own?_delSet2, ne_lo, ne_hi, enb, vcb, ↓evSo_some, ↓reduceIte, reduceCtorEq, seval]
        · intro q hq
          by_cases e : q < g.length
          · have e3 : q < 1 ∨ 1 ≤ q := by omega
            simp [e, cI, List.getElem?_append_left e]; try omega
          · have e2 : q = g.length := by omega
            have hne : ¬ g = [] := fun h => by rw [h] at hge; simp at hge
            subst e2
            first | (simp [litRow, cI]; done) | (simp [litRow, cI, hne, hg0]; done)
        · have hji : (5000 + j = 5000 + i) = False := eq_false (by omega)
          simp only [hji, own?_setO, own?_nestD, own?_delSet, own?_delSet2, ne_lo, ne_hi, enb, vcb, ↓evSo_some, ↓reduceIte, reduceCtorEq, seval]
      · rw [if_neg hg1] at hnth
        have hrow := nest_at hgi (by omega)
        simp only [grO, grE1, slX, ew, hnth, hrow, hK 47 (by decide), hK 48 (by decide), hc, own?_setO, own?_nestD, own?_delSet, own?_delSet2, ne_lo, ne_hi, vcb, ↓evSo_some, ↓reduceIte, reduceCtorEq, seval]
        refine ⟨fun _ => hb1, rfl, ⟨by omega, by omega⟩, hil, ⟨by omega, by simp only [maxLen]; omega⟩, ⟨by omega, by omega⟩, hil, (by
          have hm1 : ∀ a, a < 5000 → (5000 + i == a) = false := fun a ha => by rw [beq_eq_false_iff_ne]; omega
          have hm2 : ∀ a, a < 5000 → (a == 5000 + i) = false := fun a ha => by rw [beq_eq_false_iff_ne]; omega
          simp [ownOk, meetL, hitL, List.range, List.range.loop, hm1, hm2]
          repeat' apply And.intro
          all_goals first | decide | (left; omega) | exact .inl ⟨by omega, by omega⟩ | exact .inl (.inl (by omega))), rfl, hwk _ ?_ ?_ ⟨_, _, by simp only [own?_setO, own?_nestD, own?_delSet, own?_delSet2, ne_lo, ne_hi, enb, vcb, ↓evSo_some, ↓reduceIte, reduceCtorEq, seval]; rfl, by omega, ?_⟩ fun j hj => ?_⟩
        · simp only [OwnLeS, slX, dayQ, own?_setO, own?_nestD, own?_delSet, own?_delSet2, ne_lo, ne_hi, enb, vcb, ↓evSo_some, ↓reduceIte, reduceCtorEq, seval]
        · simp only [own?_setO, own?_nestD, own?_delSet, own?_delSet2, ne_lo, ne_hi, enb, vcb, ↓evSo_some, ↓reduceIte, reduceCtorEq, seval]
        · intro q hq
          by_cases e : q < g.length
          · have e3 : q < 1 ∨ 1 ≤ q := by omega
            simp [e, cI, List.getElem?_append_left e]; try omega
          · have e2 : q = g.length := by omega
            have hne : ¬ g = [] := fun h => by rw [h] at hge; simp at hge
            subst e2
            first | (simp [litRow, cI]; done) | (simp [litRow, cI, hne]; done)
        · have hji : (5000 + j = 5000 + i) = False := eq_false (by omega)
          simp only [hji, own?_setO, own?_nestD, own?_delSet, own?_delSet2, ne_lo, ne_hi, enb, vcb, ↓evSo_some, ↓reduceIte, reduceCtorEq, seval]
  · simp only [grE, grO, slX, own?_setO, own?_nestD, vcb, ↓evSo_some, ↓reduceIte, reduceCtorEq, seval]
    refine RetK.mk _ ((Wk.nestPub (dx := 0) (cells := cI) (K' := 1000) (K := 5000) (τ := 1) (e' := 32) (e := 3) (sz := 1) (G := (grRun L days L.length).G) (own' := [(1000, .row 32 1 (grRun L days L.length).G.length (nestD 0 cI 1 (grRun L days L.length).G))]) (by simp only [grO, vcb, ↓evSo_some, ↓reduceIte, reduceCtorEq, seval])
        (fun i g hg1 hg2 => by simp only [grO, ne_lo, ne_hi, nest_at hg1 hg2, vcb, ↓evSo_some, ↓reduceIte, reduceCtorEq, seval]) (by simp [keysO]) (fun k o hm => by simp at hm; obtain ⟨rfl, rfl⟩ := hm; exact .inl ⟨rfl, rfl⟩) (fun i hi => by simp [keysO]; omega)).trans (Wk.pub 1000 rfl)) (by simp only [rs13, rsb, vcb, ↓evSo_some, ↓reduceIte, reduceCtorEq, seval]) ?_ trivial
    simp only [rs13, rsb, vcb, ↓evSo_some, ↓reduceIte, reduceCtorEq, seval]
    exact VLe.refl _
end Go.Proofs.Ytkifajabiggfmaa
end
section
set_option linter.unusedSimpArgs false
set_option linter.unusedVariables false
namespace Go.Proofs.Ytkifajabiggfmaa
set_option linter.unusedSimpArgs false
set_option linter.unusedVariables false
open Go.Bx
set_option maxRecDepth 10000
def dayI (L : List Ls) (i : Int) : Int := (L.getD i.toNat default).day
def inL (L : List Ls) (a : List Int) : Prop := ∀ i, i ∈ a → 0 ≤ i ∧ i < L.length
end Go.Proofs.Ytkifajabiggfmaa
end
section
set_option linter.unusedSimpArgs false
set_option linter.unusedVariables false
namespace Go.Proofs.Ytkifajabiggfmaa
set_option linter.unusedSimpArgs false
set_option linter.unusedVariables false
open Go.Bx
set_option maxRecDepth 10000
section
variable {X : Type} {dx : X} {cells : X → List D}
end
structure RgS where
  G : List (List Int)
  g : List Int
def rgStep (L : List Ls) (days : Int) (y : Int) (s : RgS) : RgS :=
  if 0 < s.g.length ∧ max 1 days ≤ IntKind.i64.wrap (dayI L y - dayI L (s.g.getD 0 0)) then ⟨s.G ++ [s.g], [y]⟩ else ⟨s.G, s.g ++ [y]⟩
def rgFin (s : RgS) : List (List Int) := if 0 < s.g.length then s.G ++ [s.g] else s.G
structure RgI (L : List Ls) (k : Nat) (s : RgS) : Prop where
  len : s.G.length ≤ k ∧ s.g.length ≤ k
  each : ∀ g, g ∈ s.G → 1 ≤ g.length ∧ g.length ≤ k
  ins : inL L s.g
  pos : 0 < k → 0 < s.g.length
theorem RgI.step {L : List Ls} {days y : Int} {k : Nat} {s : RgS} (h : RgI L k s) (hy : 0 ≤ y ∧ y < L.length) : RgI L (k + 1) (rgStep L days y s) := by
  unfold rgStep
  split
  · rename_i hc
    refine ⟨by simp; have := h.len; omega, fun g hg => ?_, fun i hi => by simp at hi; subst hi; exact hy, fun _ => by simp⟩
    rcases List.mem_append.1 hg with h1 | h1
    · have := h.each g h1; omega
    · simp at h1; subst h1; have := h.len; omega
  · refine ⟨by simp; have := h.len; omega, fun g hg => by have := h.each g hg; omega, fun i hi => ?_, fun _ => by simp⟩
    rcases List.mem_append.1 hi with h1 | h1
    · exact h.ins i h1
    · simp at h1; subst h1; exact hy
end Go.Proofs.Ytkifajabiggfmaa
end
section
set_option linter.unusedSimpArgs false
set_option linter.unusedVariables false
namespace Go.Proofs.Ytkifajabiggfmaa
set_option linter.unusedSimpArgs false
set_option linter.unusedVariables false
open Go.Bx
set_option maxRecDepth 10000
def rowsD (G : List (List Int)) : D := .sl false 1 G.length (nestD 0 cI 1 G)
theorem rSame2 (G H : List (List Int)) (hG : G.length ≤ 1000000) (hg : ∀ g, g ∈ G → g.length ≤ 1000000) : Ctr Try.prog 12 [.d (rowsD G), .d (rowsD H)] [] (.d (.bool (decide (G = H)))) [] [] := by
  by_cases hl : G.length = H.length
  · have d0 : (((G.length : Int) != (H.length : Int))) = false := by rw [bne_eq_false_iff_eq]; omega
    refine ctr_pure Try.func12 ok12 rfl cc12 cr12 Try.ntmps12 (by simp) rfl rfl ?_; intro c hP hfn; simp only [kc12, rowsD, d0, vcb, ↓evSo_some, ↓reduceIte, reduceCtorEq, seval]
    repeat' first
        | refine And.intro (fun h => ?_) (fun h => ?_)
        | refine And.intro (by first | omega | (simp only [maxLen, decide_eq_true_eq, decide_eq_false_iff_not] at *; omega)) ?_
        | (refine TR.aslO rfl rfl rfl rfl trivial (Nat.le_of_ble_eq_true rfl) ?_
           try simp only [d0, vcb, ↓evSo_some, ↓reduceIte, reduceCtorEq, seval])
        | refine And.intro trivial ?_
        | refine And.intro rfl ?_
        | fail
    refine vcC.loop (X := Nat) (fun k => ⟨[(0, .d (rowsD G)), (1, .d (rowsD H)), (5, .d (.int .i64 k))], [], []⟩)
      (fun k => k ≤ G.length ∧ ∀ j, j < k → G.getD j [] = H.getD j []) (fun k => G.length - k) 0 ⟨Nat.zero_le _, fun j hj => absurd hj (Nat.not_lt_zero j)⟩ (Wk.of _ hfn rfl (by simp only [rowsD, enb, vcb, ↓evSo_some, ↓reduceIte, reduceCtorEq, seval]) (by simp only [enb, vcb, ↓evSo_some, ↓reduceIte, reduceCtorEq, seval])) ?_
    rintro k ⟨hk, he⟩
    simp only [rowsD, vcb, ↓evSo_some, ↓reduceIte, reduceCtorEq, seval]
    refine ⟨fun h1 => ?_, fun h1 => ?_⟩
    · have hlt : k < G.length := by have := of_decide_eq_true h1; omega
      obtain ⟨g, hdg, hgg, hgm, -⟩ := drop_at hlt
      obtain ⟨g2, hdh, hgh, -, -⟩ := drop_at (l := H) (k := k) (by omega)
      have cs := s17 g g2 (by have := hg g hgm; omega)
      simp only [slK] at cs
      have e1 : ∀ d, G.getD k d = g := hgg
      have e2 : ∀ d, H.getD k d = g2 := hgh
      simp only [nestD, cI, e1, e2, vcb, ↓evSo_some, ↓reduceIte, reduceCtorEq, seval]
      repeat' first
          | (first
              | refine TR.p hP (by first | exact cs) (by repeat' first | exact trivial | (intro _; assumption) | apply And.intro) ?_
              | refine TR.gp hP rfl (fun _ => by first | exact cs) (fun _ => by repeat' first | exact trivial | (intro _; assumption) | apply And.intro) ?_
              | refine TR.pv hP rfl (by first | exact cs) trivial (by repeat' first | exact trivial | (intro _; assumption) | apply And.intro) ?_
             try simp only [nestD, cI, e1, e2, vcb, ↓evSo_some, ↓reduceIte, reduceCtorEq, seval])
          | refine And.intro (fun h => ?_) (fun h => ?_)
          | refine And.intro (by first | omega | (simp only [maxLen, decide_eq_true_eq, decide_eq_false_iff_not] at *; omega)) ?_
          | (refine TR.aslO rfl rfl rfl rfl trivial (Nat.le_of_ble_eq_true rfl) ?_
             try simp only [nestD, cI, e1, e2, vcb, ↓evSo_some, ↓reduceIte, reduceCtorEq, seval])
          | refine And.intro trivial ?_
          | refine And.intro rfl ?_
          | fail
      · have hne : g ≠ g2 := by simpa using h
        have : G ≠ H := fun e => hne (by rw [← hgg [], ← hgh [], e])
        exact RetK.pure (by simp only [rs12, rsb, vcb, ↓evSo_some, ↓reduceIte, reduceCtorEq, seval]) (by (simp only [rs12, rsb, vcb, ↓evSo_some, ↓reduceIte, reduceCtorEq, seval, enb, vcb, ↓evSo_some, ↓reduceIte, reduceCtorEq, seval]) <;> (first | simp [this]))
      · have hne : g = g2 := by simpa using h
        exact lopK.on (k + 1) ⟨hlt, fun j hj => by
          rcases Nat.lt_or_eq_of_le (Nat.le_of_lt_succ hj) with h2 | h2
          · exact he j h2
          · rw [h2, hgg, hgh, hne]⟩ (by omega) (Wk.of _ hfn rfl (by simp only [rowsD, nestD, cI, enb, vcb, ↓evSo_some, ↓reduceIte, reduceCtorEq, seval]; exact wS (by omega)) (by simp only [enb, vcb, ↓evSo_some, ↓reduceIte, reduceCtorEq, seval]))
    · have hkl : k = G.length := by have := of_decide_eq_false h1; omega
      have hGH : G = H := by
        refine List.ext_getElem? fun j => ?_
        by_cases hj : j < G.length
        · have := he j (by omega)
          rw [List.getD_eq_getElem?_getD, List.getD_eq_getElem?_getD, List.getElem?_eq_getElem hj, List.getElem?_eq_getElem (by omega : j < H.length)] at this
          rw [List.getElem?_eq_getElem hj, List.getElem?_eq_getElem (by omega : j < H.length)]
          simpa using this
        · rw [List.getElem?_eq_none (by omega), List.getElem?_eq_none (by omega)]
      repeat' first
          | refine And.intro (fun h => ?_) (fun h => ?_)
          | refine And.intro (by first | omega | (simp only [maxLen, decide_eq_true_eq, decide_eq_false_iff_not] at *; omega)) ?_
          | (refine TR.aslO rfl rfl rfl rfl trivial (Nat.le_of_ble_eq_true rfl) ?_
             try simp only [vcb, ↓evSo_some, ↓reduceIte, reduceCtorEq, seval])
          | refine And.intro trivial ?_
          | refine And.intro rfl ?_
          | fail
      exact RetK.pure (by simp only [rs12, rsb, vcb, ↓evSo_some, ↓reduceIte, reduceCtorEq, seval]) (by (simp only [rs12, rsb, vcb, ↓evSo_some, ↓reduceIte, reduceCtorEq, seval, enb, vcb, ↓evSo_some, ↓reduceIte, reduceCtorEq, seval]) <;> (first | simp [hGH]))
  · have d0 : (((G.length : Int) != (H.length : Int))) = true := by rw [bne_iff_ne]; omega
    have : G ≠ H := fun e => hl (by rw [e])
    refine ctr_pure Try.func12 ok12 rfl cc12 cr12 Try.ntmps12 (by simp) rfl rfl ?_; intro c hP hfn; simp only [kc12, rowsD, d0, vcb, ↓evSo_some, ↓reduceIte, reduceCtorEq, seval]
    repeat' first
        | refine And.intro (fun h => ?_) (fun h => ?_)
        | refine And.intro (by first | omega | (simp only [maxLen, decide_eq_true_eq, decide_eq_false_iff_not] at *; omega)) ?_
        | (refine TR.aslO rfl rfl rfl rfl trivial (Nat.le_of_ble_eq_true rfl) ?_
           try simp only [d0, vcb, ↓evSo_some, ↓reduceIte, reduceCtorEq, seval])
        | refine And.intro trivial ?_
        | refine And.intro rfl ?_
        | fail
    exact RetK.pure (by simp only [rs12, rsb, vcb, ↓evSo_some, ↓reduceIte, reduceCtorEq, seval]) (by (simp only [rs12, rsb, vcb, ↓evSo_some, ↓reduceIte, reduceCtorEq, seval, enb, vcb, ↓evSo_some, ↓reduceIte, reduceCtorEq, seval]) <;> (first | simp [this]))
end Go.Proofs.Ytkifajabiggfmaa
end
section
set_option linter.unusedSimpArgs false
set_option linter.unusedVariables false
namespace Go.Proofs.Ytkifajabiggfmaa
set_option linter.unusedSimpArgs false
set_option linter.unusedVariables false
open Go.Bx
set_option maxRecDepth 10000
theorem few (L : List Ls) : Ctr Try.prog 10 [.d (slX L)] [] (.d (.bool (decide (L.length ≤ 150)))) [] [] := by
  rw [show decide (L.length ≤ 150) = decide ((L.length : Int) ≤ 150) from decide_eq_decide.2 (by omega)]
  refine ctr_pure Try.func10 ok10 rfl cc10 cr10 Try.ntmps10 (by simp) rfl rfl ?_; intro c hP hfn; simp only [kc10, slX, vcb, ↓evSo_some, ↓reduceIte, reduceCtorEq, seval]
  exact RetK.pure (by simp only [rs10, rsb, vcb, ↓evSo_some, ↓reduceIte, reduceCtorEq, seval]) (by simp only [rs10, rsb, vcb, ↓evSo_some, ↓reduceIte, reduceCtorEq, seval, enb, vcb, ↓evSo_some, ↓reduceIte, reduceCtorEq, seval])
def ofT (a b c : Int) : Tr := ⟨1, 3, 1, 100, 0, a, b, c, 255⟩
def lossT (a b c : Int) : Ls := ⟨1, a, b, 0, c⟩
theorem lOf (a b c : Int) : Ctr Try.prog 25 [.d (.int .i64 a), .d (.int .i64 b), .d (.int .i64 c)] [] (vT (ofT a b c)) [] [] := by
  refine ctr_pure Try.func25 ok25 rfl cc25 cr25 Try.ntmps25 (by simp) rfl rfl ?_; intro c hP hfn; simp only [kc25, vcb, ↓evSo_some, ↓reduceIte, reduceCtorEq, seval]
  exact RetK.pure (by simp only [rs25, rsb, vcb, ↓evSo_some, ↓reduceIte, reduceCtorEq, seval]) (by simp only [rs25, rsb, vcb, ↓evSo_some, ↓reduceIte, reduceCtorEq, seval, enb, vcb, ↓evSo_some, ↓reduceIte, reduceCtorEq, seval, vT, cT, ofT])
theorem lLoss (a b c : Int) : Ctr Try.prog 24 [.d (.int .i64 a), .d (.int .i64 b), .d (.int .i64 c)] [] (vX (lossT a b c)) [] [] := by
  refine ctr_pure Try.func24 ok24 rfl cc24 cr24 Try.ntmps24 (by simp) rfl rfl ?_; intro c hP hfn; simp only [kc24, vcb, ↓evSo_some, ↓reduceIte, reduceCtorEq, seval]
  exact RetK.pure (by simp only [rs24, rsb, vcb, ↓evSo_some, ↓reduceIte, reduceCtorEq, seval]) (by simp only [rs24, rsb, vcb, ↓evSo_some, ↓reduceIte, reduceCtorEq, seval, enb, vcb, ↓evSo_some, ↓reduceIte, reduceCtorEq, seval, vX, cX', lossT])
theorem VLe.slD {full full' : Bool} {sz n : Nat} {f f' : Nat → List D} (hb : full' = true → full = true) (hf : ∀ i, i < n → (f i).length = (f' i).length ∧ ∀ (j : Nat) (x y : D), (f i)[j]? = some x → (f' i)[j]? = some y → VLe (.d x) (.d y)) : VLe (.d (.sl full sz n f)) (.d (.sl full' sz n f')) := by
  intro β E w v hv
  cases hv with
  | d _ _ hv =>
    refine .d _ _ ?_
    generalize hN : n = m at hv ⊢
    cases hv with
    | nil _ _ _ _ => exact .nil _ _ _ _
    | sl _ _ _ _ b off c g hc hfu hl hcell hrel =>
      subst hN
      refine .sl _ _ _ _ b off c g hc (fun h => hfu (hb h)) (fun i hi => by rw [← (hf i hi).1]; exact hl i hi) hcell (fun i j hi hj y hy => ?_)
      have hlt : j < (f i).length := by rw [hl i hi]; exact hj
      have h1 := hrel i j hi hj _ (List.getElem?_eq_getElem hlt)
      have h2 := (hf i hi).2 j _ y (List.getElem?_eq_getElem hlt) hy
      exact rel_d (h2 β E w _ (.d _ _ h1))
def exL : List Ls := [lossT 7 5 50, lossT 0 3 120, lossT 7 9 150]
theorem ex_bears0 : bearsE (ofT 100 60 0) exL = ([15, 0, 45], 0) := by decide +kernel
theorem ex_bears1 : bearsE (ofT 100 60 1) exL = ([15, 20, 45], 0) := by decide +kernel
theorem ex_bears2 : bearsE ⟨0, 0, 0, 0, 0, 0, 0, 0, 0⟩ exL = ([], 1) := by decide +kernel
theorem ex_group : groupT exL 3 = [[1, 0], [2]] := by decide +kernel
theorem ex_events : eventsT (ofT 1 1 1) exL = [[0, 2], [1]] := by decide +kernel
def eL : V := .d (.sl true 5 3 (litRow 5 [.int .i64 1, .int .i64 7, .int .i64 5, .int .i64 0, .int .i64 50, .int .i64 1, .int .i64 0, .int .i64 3, .int .i64 0, .int .i64 120, .int .i64 1, .int .i64 7, .int .i64 9, .int .i64 0, .int .i64 150]))
def eB0 : V := .d (.sl true 1 3 (litRow 1 [.int .i64 15, .int .i64 0, .int .i64 45]))
def eB1 : V := .d (.sl true 1 3 (litRow 1 [.int .i64 15, .int .i64 20, .int .i64 45]))
def eG : V := .d (.sl true 1 2 (litRow 1 [.sl true 1 2 (litRow 1 [.int .i64 1, .int .i64 0]), .sl true 1 1 (litRow 1 [.int .i64 2])]))
def eE : V := .d (.sl true 1 2 (litRow 1 [.sl true 1 2 (litRow 1 [.int .i64 0, .int .i64 2]), .sl true 1 1 (litRow 1 [.int .i64 1])]))
theorem vle_exL : VLe eL (.d (slX exL)) :=
  VLe.sl rfl (fun _ => rfl) (fun h => by cases h) fun i hi => by
    have : i = 0 ∨ i = 1 ∨ i = 2 := by omega
    rcases this with rfl | rfl | rfl <;> rfl
theorem vle_rows {a b c : Int} : VLe (.d (.sl true 1 2 (litRow 1 [.sl true 1 2 (litRow 1 [.int .i64 a, .int .i64 b]), .sl true 1 1 (litRow 1 [.int .i64 c])]))) (.d (rowsD [[a, b], [c]])) := by
  refine VLe.slD (fun h => by cases h) fun i hi => ?_
  have : i = 0 ∨ i = 1 := by omega
  rcases this with rfl | rfl <;> refine ⟨rfl, fun j x y hx hy => ?_⟩ <;> (
    have hj : j = 0 := by
      have := (List.getElem?_eq_some_iff.1 hy).1
      simp [nestD] at this; exact this
    subst hj
    simp [litRow] at hx
    simp [nestD] at hy
    subst hx; subst hy)
  · exact VLe.sl rfl (fun _ => rfl) (fun h => by cases h) fun i hi => by
      have : i = 0 ∨ i = 1 := by omega
      rcases this with rfl | rfl <;> rfl
  · exact VLe.sl rfl (fun _ => rfl) (fun h => by cases h) fun i hi => by
      have : i = 0 := by omega
      subst this; rfl
set_option maxHeartbeats 2000000 in
theorem lAlive : Ctr Try.prog 11 [] [] (.d (.bool true)) [] [] := by
  have c1 := sBears (ofT 100 60 0) exL (by decide)
  rw [ex_bears0] at c1
  have c1 := c1.arg (args := [vT (ofT 100 60 0), eL]) ⟨VLe.refl _, vle_exL, trivial⟩
  have c2 := sBears (ofT 100 60 1) exL (by decide)
  rw [ex_bears1] at c2
  have c2 := c2.arg (args := [vT (ofT 100 60 1), eL]) ⟨VLe.refl _, vle_exL, trivial⟩
  have c3 := sBears ⟨0, 0, 0, 0, 0, 0, 0, 0, 0⟩ exL (by decide)
  rw [ex_bears2] at c3
  have c3 := c3.arg (args := [vT ⟨0, 0, 0, 0, 0, 0, 0, 0, 0⟩, eL]) ⟨VLe.refl _, vle_exL, trivial⟩
  have c4 := (s17 [15, 0, 45] [15, 0, 45] (by decide)).arg (args := [.d (slK .i64 [15, 0, 45]), eB0]) ⟨VLe.refl _, LitI.vle (by repeat constructor) (by rfl), trivial⟩
  have c5 := (s17 [15, 20, 45] [15, 20, 45] (by decide)).arg (args := [.d (slK .i64 [15, 20, 45]), eB1]) ⟨VLe.refl _, LitI.vle (by repeat constructor) (by rfl), trivial⟩
  have c6 := sGroup exL 3 (by decide)
  rw [ex_group] at c6
  have c6 := c6.arg (args := [eL, .d (.int .i64 3)]) ⟨vle_exL, VLe.refl _, trivial⟩
  have c7 := (rSame2 [[1, 0], [2]] [[1, 0], [2]] (by decide) (by decide)).arg (args := [.d (rowsD [[1, 0], [2]]), eG]) ⟨VLe.refl _, vle_rows, trivial⟩
  have c8 := sEvents (ofT 1 1 1) exL (by decide)
  rw [ex_events] at c8
  have c8 := c8.arg (args := [vT (ofT 1 1 1), eL]) ⟨VLe.refl _, vle_exL, trivial⟩
  have c9 := (rSame2 [[0, 2], [1]] [[0, 2], [1]] (by decide) (by decide)).arg (args := [.d (rowsD [[0, 2], [1]]), eE]) ⟨VLe.refl _, vle_rows, trivial⟩
  have d1 := lLoss
  have d2 := lOf
  simp only [vT, vX, cT, cX', ofT, lossT, eL, eB0, eB1, eG, eE, rowsD, slK, List.length_cons, List.length_nil, Nat.zero_add, Nat.reduceAdd, decide_true] at c1 c2 c3 c4 c5 c6 c7 c8 c9 d1 d2
  refine ctr_pure Try.func11 ok11 rfl cc11 cr11 Try.ntmps11 (by simp) rfl rfl ?_; intro c hP hfn; simp only [kc11, vcb, ↓evSo_some, ↓reduceIte, reduceCtorEq, seval]
  repeat' first
      | (first
          | refine TR.p hP (by first | exact d1 _ _ _ | exact d2 _ _ _ | exact c1 | exact c2 | exact c3 | exact c4 | exact c5 | exact c6 | exact c7 | exact c8 | exact c9) (by repeat' first | exact trivial | (intro _; assumption) | apply And.intro) ?_
          | refine TR.gp hP rfl (fun _ => by first | exact d1 _ _ _ | exact d2 _ _ _ | exact c1 | exact c2 | exact c3 | exact c4 | exact c5 | exact c6 | exact c7 | exact c8 | exact c9) (fun _ => by repeat' first | exact trivial | (intro _; assumption) | apply And.intro) ?_
          | refine TR.pv hP rfl (by first | exact d1 _ _ _ | exact d2 _ _ _ | exact c1 | exact c2 | exact c3 | exact c4 | exact c5 | exact c6 | exact c7 | exact c8 | exact c9) trivial (by repeat' first | exact trivial | (intro _; assumption) | apply And.intro) ?_
         try simp only [Int.reduceBEq, Int.reduceNeg, vcb, ↓evSo_some, ↓reduceIte, reduceCtorEq, seval])
      | refine And.intro (fun h => ?_) (fun h => ?_)
      | refine And.intro (by first | omega | (simp only [maxLen, decide_eq_true_eq, decide_eq_false_iff_not] at *; omega)) ?_
      | (refine TR.aslO rfl rfl rfl rfl trivial (Nat.le_of_ble_eq_true rfl) ?_
         try simp only [Int.reduceBEq, Int.reduceNeg, vcb, ↓evSo_some, ↓reduceIte, reduceCtorEq, seval])
      | refine And.intro trivial ?_
      | refine And.intro rfl ?_
      | fail
  all_goals exact RetK.pure (by simp only [rs11, rsb, vcb, ↓evSo_some, ↓reduceIte, reduceCtorEq, seval]) (by (simp only [rs11, rsb, vcb, ↓evSo_some, ↓reduceIte, reduceCtorEq, seval, enb, vcb, ↓evSo_some, ↓reduceIte, reduceCtorEq, seval]) <;> (first | simp))
end Go.Proofs.Ytkifajabiggfmaa
end
section
set_option linter.unusedSimpArgs false
set_option linter.unusedVariables false
namespace Go.Proofs.Ytkifajabiggfmaa
set_option linter.unusedSimpArgs false
set_option linter.unusedVariables false
open Go.Bx
set_option maxRecDepth 10000
theorem bearsF_len (t : Tr) (l : List Ls) : ∀ (G : List (List Int)) (left : Int) (out : List Int), (bearsF t l left G out).length = out.length
  | [], _, _ => rfl
  | g :: G, left, out => by rw [bearsF, bearsF_len t l G, putAll_len]
theorem bearsE_len (t : Tr) (l : List Ls) : (bearsE t l).1.length ≤ l.length := by
  unfold bearsE
  split
  · simp
  · split
    · simp
    · simp [bearsF_len]
end Go.Proofs.Ytkifajabiggfmaa
end
section
set_option linter.unusedSimpArgs false
set_option linter.unusedVariables false
namespace Go.Proofs.Ytkifajabiggfmaa
set_option linter.unusedSimpArgs false
set_option linter.unusedVariables false
open Go.Bx
set_option maxRecDepth 10000
theorem dayI_nat (L : List Ls) (k : Nat) : dayI L (k : Int) = dayQ L k := by unfold dayI dayQ; rw [Int.toNat_natCast]
structure GrRel (L : List Ls) (s : GrS) (r : RgS) : Prop where
  G : s.G = rgFin r
  op : 0 < r.g.length → s.op = dayI L (r.g.getD 0 0)
  e : r.g.length = 0 → r.G = []
theorem GrRel.step {L : List Ls} {days : Int} {s : GrS} {r : RgS} (h : GrRel L s r) (y : Nat) : GrRel L (grStep L days y s) (rgStep L days (y : Int) r) := by
  by_cases hg : 0 < r.g.length
  · have hG : s.G = r.G ++ [r.g] := by rw [h.G, rgFin, if_pos hg]
    have hl : s.G.length = r.G.length + 1 := by rw [hG]; simp
    have ho := h.op hg
    by_cases hc : max 1 days ≤ IntKind.i64.wrap (dayI L (y : Int) - dayI L (r.g.getD 0 0))
    · rw [grStep, if_pos (.inr (by rw [ho, ← dayI_nat]; exact hc)), rgStep, if_pos ⟨hg, hc⟩]
      exact ⟨by simp [rgFin, hG], fun _ => by simp [dayI_nat], fun h => by simp at h⟩
    · rw [grStep, if_neg (by rw [ho, ← dayI_nat]; omega), rgStep, if_neg (fun h => hc h.2)]
      refine ⟨?_, fun _ => ?_, fun h => by simp at h⟩
      · rw [rgFin, if_pos (by simp)]
        simp only [hl, Nat.add_sub_cancel]
        rw [hG]
        have e1 : (r.G ++ [r.g]).getD r.G.length [] = r.g := by rw [List.getD_eq_getElem?_getD, List.getElem?_append_right (Nat.le_refl _)]; simp
        rw [e1, List.set_append_right _ _ (Nat.le_refl _)]; simp
      · simp only; rw [ho]
        have : (r.g ++ [(y : Int)]).getD 0 0 = r.g.getD 0 0 := by rw [List.getD_eq_getElem?_getD, List.getElem?_append_left hg, ← List.getD_eq_getElem?_getD]
        rw [this]
  · have hg0 : r.g = [] := List.eq_nil_of_length_eq_zero (by omega)
    have hGr := h.e (by omega)
    have hG : s.G = [] := by rw [h.G, rgFin, if_neg hg, hGr]
    rw [grStep, if_pos (.inl (by rw [hG]; rfl)), rgStep, if_neg (fun h => hg h.1)]
    exact ⟨by simp [rgFin, hG, hg0, hGr], fun _ => by simp [hg0, dayI_nat], fun h => by simp at h⟩
end Go.Proofs.Ytkifajabiggfmaa
end
section
set_option linter.unusedSimpArgs false
set_option linter.unusedVariables false
namespace Go.Proofs.Ytkifajabiggfmaa
set_option linter.unusedSimpArgs false
set_option linter.unusedVariables false
open Go.Bx
set_option maxRecDepth 10000
theorem impFT {A : Prop} : (false = true → A) = True := eq_true (fun h => by cases h)
theorem impTF {A : Prop} : (true = false → A) = True := eq_true (fun h => by cases h)
def hdI (g : List Int) : Int := g.getD 0 0
structure WI (L : List Ls) (days : Int) (k : Nat) (s : GrS) : Prop where
  flat : s.G.flatten = ((ordQ L).take k).map (fun k : Nat => (k : Int))
  each : ∀ g, g ∈ s.G → 0 < g.length ∧ ∀ i, i ∈ g → dayI L (hdI g) ≤ dayI L i ∧ dayI L i < dayI L (hdI g) + days
  chain : ∀ j, j + 1 < s.G.length → days ≤ dayI L (hdI (s.G.getD (j + 1) [])) - dayI L (hdI (s.G.getD j []))
  op : ∀ j, j + 1 = s.G.length → s.op = dayI L (hdI (s.G.getD j []))
theorem WI.step {L : List Ls} {days : Int} {k : Nat} {s : GrS} (h : WI L days k s) (hd : 1 ≤ days ∧ days ≤ 1099511627776) (hx : ∀ x, x ∈ L → 1 ≤ x.day ∧ x.day ≤ 292194) (hk : k < L.length) : WI L days (k + 1) (grStep L days ((ordQ L).getD k 0) s) := by
  have hlen := ordQ_len L
  have hko : k < (ordQ L).length := by omega
  have hday : ∀ j, j < L.length → 1 ≤ dayQ L j ∧ dayQ L j ≤ 292194 := fun j hj => by
    unfold dayQ; rw [List.getD_eq_getElem?_getD, List.getElem?_eq_getElem hj]; exact hx _ (List.getElem_mem hj)
  obtain ⟨y, hy⟩ : ∃ y, (ordQ L).getD k 0 = y := ⟨_, rfl⟩
  have hyl : y < L.length := by rw [← hy]; exact ordQ_lt hk
  have hye : (ordQ L)[k] = y := by rw [← hy, List.getD_eq_getElem?_getD, List.getElem?_eq_getElem hko]; rfl
  have hfl : ((ordQ L).take (k + 1)).map (fun k : Nat => (k : Int)) = ((ordQ L).take k).map (fun k : Nat => (k : Int)) ++ [(y : Int)] := by
    rw [List.take_add_one, List.getElem?_eq_getElem hko, hye]; simp
  have hle : ∀ i, i ∈ s.G.flatten → 1 ≤ dayI L i ∧ dayI L i ≤ dayQ L y := by
    intro i hi
    rw [h.flat] at hi
    obtain ⟨a, ha, rfl⟩ := List.mem_map.1 hi
    obtain ⟨j, hj⟩ := List.mem_iff_getElem?.1 ha
    have hjk : j < k := by have := (List.getElem?_eq_some_iff.1 hj).1; rw [List.length_take] at this; omega
    rw [List.getElem?_take_of_lt hjk] at hj
    have hjl := (List.getElem?_eq_some_iff.1 hj).1
    have hje := (List.getElem?_eq_some_iff.1 hj).2
    have hp := List.pairwise_iff_getElem.1 (ordQ_ok L).1 j k hjl hko hjk
    rw [hye, hje] at hp
    have := (lessQ_false L y a).1 hp
    have hal : a < L.length := by rw [← hje]; have := ordQ_lt (L := L) (k := j) (by omega); rwa [List.getD_eq_getElem?_getD, List.getElem?_eq_getElem hjl] at this
    have := hday a hal
    rw [dayI_nat]; omega
  have hyd := hday y hyl
  rw [hy]
  have hm : max 1 days = days := by omega
  by_cases h0 : s.G.length = 0
  · have hG : s.G = [] := List.eq_nil_of_length_eq_zero h0
    rw [grStep, if_pos (.inl h0)]
    refine ⟨?_, fun g hg => ?_, fun j hj => ?_, fun j hj => ?_⟩
    · simp only; rw [hfl, ← h.flat, hG]; simp
    · simp only [hG, List.nil_append, List.mem_singleton] at hg; subst hg
      refine ⟨by simp, fun i hi => ?_⟩
      rw [List.mem_singleton] at hi; subst hi
      simp only [hdI, List.getD_cons_zero]; omega
    · simp [hG] at hj
    · simp only [hG, List.nil_append, List.length_singleton] at hj ⊢
      have : j = 0 := by omega
      subst this; simp [hdI, dayI_nat]
  · obtain ⟨n, hn⟩ : ∃ n, s.G.length = n + 1 := ⟨s.G.length - 1, by omega⟩
    have hop := h.op n (by omega)
    have hgn : s.G[n]? = some (s.G.getD n []) := by rw [List.getD_eq_getElem?_getD, List.getElem?_eq_getElem (by omega)]; rfl
    have hgm : s.G.getD n [] ∈ s.G := List.mem_of_getElem? hgn
    obtain ⟨g, hg⟩ : ∃ g, s.G.getD n [] = g := ⟨_, rfl⟩
    rw [hg] at hop hgn hgm
    have hge := h.each g hgm
    have hhd : hdI g ∈ g := by unfold hdI; rw [List.getD_eq_getElem?_getD, List.getElem?_eq_getElem hge.1]; exact List.getElem_mem hge.1
    have hho := hle (hdI g) (List.mem_flatten.2 ⟨g, hgm, hhd⟩)
    have hw : IntKind.i64.wrap (dayQ L y - s.op) = dayQ L y - s.op := wI (by omega)
    have hGe : s.G = s.G.take n ++ [g] := by
      have := List.take_append_drop n s.G
      rw [List.drop_eq_getElem_cons (by omega), (List.getElem?_eq_some_iff.1 hgn).2, List.drop_eq_nil_of_le (by omega)] at this
      exact this.symm
    by_cases hc : days ≤ dayQ L y - s.op
    · rw [grStep, if_pos (.inr (by rw [hm, hw]; exact hc))]
      refine ⟨?_, fun g' hg' => ?_, fun j hj => ?_, fun j hj => ?_⟩
      · simp only; rw [hfl, ← h.flat]; simp
      · rcases List.mem_append.1 hg' with h1 | h1
        · exact h.each g' h1
        · rw [List.mem_singleton] at h1; subst h1
          refine ⟨by simp, fun i hi => ?_⟩
          rw [List.mem_singleton] at hi; subst hi
          simp only [hdI, List.getD_cons_zero]; omega
      · simp only [List.length_append, List.length_singleton] at hj
        by_cases hj1 : j + 1 < s.G.length
        · have := h.chain j hj1
          rw [List.getD_eq_getElem?_getD, List.getD_eq_getElem?_getD, List.getElem?_append_left hj1, List.getElem?_append_left (by omega), ← List.getD_eq_getElem?_getD, ← List.getD_eq_getElem?_getD]; exact this
        · have hjn : j = n := by omega
          subst hjn
          rw [List.getD_eq_getElem?_getD, List.getD_eq_getElem?_getD, List.getElem?_append_right (by omega), List.getElem?_append_left (by omega), hgn]
          rw [hop] at hc
          simp [hn, hdI, dayI_nat] at hc ⊢; omega
      · simp only [List.length_append, List.length_singleton] at hj
        rw [List.getD_eq_getElem?_getD, List.getElem?_append_right (by omega)]
        have : j - s.G.length = 0 := by omega
        simp [this, hdI, dayI_nat]
    · rw [grStep, if_neg (by rw [hm, hw]; omega)]
      have hgd : s.G.getD (s.G.length - 1) [] = g := by rw [show s.G.length - 1 = n by omega]; exact hg
      have hhead : hdI (g ++ [(y : Int)]) = hdI g := by unfold hdI; rw [List.getD_eq_getElem?_getD, List.getElem?_append_left hge.1, ← List.getD_eq_getElem?_getD]
      rw [hgd, show s.G.length - 1 = n by omega]
      have hset : s.G.set n (g ++ [(y : Int)]) = s.G.take n ++ [g ++ [(y : Int)]] := by
        conv => lhs; rw [hGe]
        have : (s.G.take n).length = n := by rw [List.length_take]; omega
        rw [List.set_append_right _ _ (by omega), this]; simp
      have hgetD : ∀ j, hdI ((s.G.set n (g ++ [(y : Int)])).getD j []) = hdI (s.G.getD j []) := fun j => by
        by_cases e : j = n
        · subst e; rw [List.getD_eq_getElem?_getD, List.getElem?_set_self (by omega), hg]; exact hhead
        · rw [List.getD_eq_getElem?_getD, List.getElem?_set_ne (fun g => e g.symm), ← List.getD_eq_getElem?_getD]
      refine ⟨?_, fun g' hg' => ?_, fun j hj => ?_, fun j hj => ?_⟩
      · simp only; rw [hfl, ← h.flat, hset]
        conv => rhs; rw [hGe]
        simp
      · simp only at hg'
        rcases List.mem_or_eq_of_mem_set hg' with h1 | h1
        · exact h.each g' h1
        · subst h1
          refine ⟨by simp, fun i hi => ?_⟩
          rw [hhead]
          rcases List.mem_append.1 hi with h2 | h2
          · exact hge.2 i h2
          · rw [List.mem_singleton] at h2; subst h2
            rw [dayI_nat]; omega
      · simp only [List.length_set] at hj ⊢
        rw [hgetD, hgetD]; exact h.chain j hj
      · simp only [List.length_set] at hj ⊢
        rw [hgetD]; exact h.op j hj
end Go.Proofs.Ytkifajabiggfmaa
end
section
set_option linter.unusedSimpArgs false
set_option linter.unusedVariables false
namespace Go.Proofs.Ytkifajabiggfmaa
set_option linter.unusedSimpArgs false
set_option linter.unusedVariables false
open Go.Bx
theorem down_q {m s S : Int} (hm : 0 ≤ m) (hs : 0 ≤ s) (hS : 0 < S) (hsS : s ≤ S) (h4 : m ≤ 4000000000000000000) : downR m s S = (m * s / S, 0) := by
  obtain ⟨M, rfl⟩ : ∃ A : Nat, m = (A : Int) := ⟨m.toNat, by omega⟩
  obtain ⟨T, rfl⟩ : ∃ A : Nat, s = (A : Int) := ⟨s.toNat, by omega⟩
  obtain ⟨K, rfl⟩ : ∃ A : Nat, S = (A : Int) := ⟨S.toNat, by omega⟩
  have hle : M * T / K ≤ M := by
    have h1 : M * T ≤ M * K := Nat.mul_le_mul_left M (by omega)
    have h2 := Nat.div_le_div_right (c := K) h1
    rwa [Nat.mul_div_cancel M (by omega)] at h2
  rw [downR, ofR_nat M T K (by omega), if_neg (by omega)]
  simp only [upD, Bool.false_eq_true, if_false, Nat.add_zero]
  rw [if_neg (by omega)]
  simp
def dealQ (m S : Int) : Int → List Int → List Int
  | _, [] => []
  | n, p :: r => (m * (n + p) / S - m * n / S) :: dealQ m S (n + p) r
theorem quo_le {m s t S : Int} (hm : 0 ≤ m) (hS : 0 < S) (h : s ≤ t) : m * s / S ≤ m * t / S :=
  Int.ediv_le_ediv hS (Int.mul_le_mul_of_nonneg_left h hm)
theorem quo_nn {m s S : Int} (hm : 0 ≤ m) (hS : 0 < S) (h : 0 ≤ s) : 0 ≤ m * s / S :=
  Int.ediv_nonneg (Int.mul_nonneg hm h) (by omega)
theorem quo_top {m s S : Int} (hm : 0 ≤ m) (hS : 0 < S) (h : s ≤ S) : m * s / S ≤ m := by
  have := quo_le hm hS h
  rwa [Int.mul_ediv_cancel m (by omega)] at this
theorem deal2_eq {m S : Int} (hm : 0 ≤ m) (hS : 0 < S) (h4 : m ≤ 4000000000000000000) : ∀ (l : List Int) (n : Int), 0 ≤ n → (∀ x, x ∈ l → 0 ≤ x) → n + l.sum ≤ S →
    deal2 m S (m * n / S) (psums n l) = dealQ m S n l
  | [], _, _, _, _ => rfl
  | p :: r, n, hn, hx, hs => by
    have hp := hx p (by simp)
    have hr := sum_nonneg (l := r) (fun x h => hx x (by simp [h]))
    rw [List.sum_cons] at hs
    have h1 := quo_nn hm hS hn
    have h2 := quo_le hm hS (show n ≤ n + p by omega)
    have h3 := quo_top hm hS (show n + p ≤ S by omega)
    rw [psums, deal2, dealQ, down_q hm (by omega) hS (by omega) h4, deal2_eq hm hS h4 r (n + p) (by omega) (fun x h => hx x (by simp [h])) (by omega)]
    simp only
    rw [wI (by omega)]
structure SOk (m : Int) (l : List Int) : Prop where
  m0 : 0 ≤ m
  m4 : m ≤ 4000000000000000000
  n2 : l.length ≤ 2000
  nn : ∀ x, x ∈ l → 0 ≤ x
  S0 : 0 < l.sum
  S4 : l.sum ≤ 4000000000000000000
theorem split_ok {m : Int} {l : List Int} (h : SOk m l) : splitR m l = (dealQ m l.sum 0 l, 0) := by
  have := h.m0; have := h.m4; have := h.n2; have := h.S0; have := h.S4
  have e := deal2_eq h.m0 h.S0 h.m4 l 0 (by omega) h.nn (by omega)
  rw [Int.mul_zero, Int.zero_ediv] at e
  rw [splitR, if_neg (by omega), if_neg (any_nonneg h.nn), if_neg (by omega), if_neg (by omega), e]
theorem split_inv {m : Int} {l : List Int} (h : (splitR m l).2 = 0) : SOk m l := by
  unfold splitR at h
  split at h
  · cases h
  split at h
  · cases h
  rename_i h1 h2
  have hnn : ∀ x, x ∈ l → 0 ≤ x := by
    intro x hx
    by_cases h3 : x < 0
    · exact absurd (any_neg hx h3) h2
    · omega
  have := sum_nonneg hnn
  split at h
  · cases h
  split at h
  · cases h
  exact ⟨by omega, by omega, by omega, hnn, by omega, by omega⟩
theorem split_bad {m : Int} {l : List Int} (h : (splitR m l).2 ≠ 0) : (splitR m l).1 = [] := by
  unfold splitR at h ⊢
  split
  · rfl
  split
  · rfl
  split
  · rfl
  split
  · rfl
  · rename_i h1 h2 h3 h4; simp [h1, h2, h3, h4] at h
theorem dealQ_len (m S : Int) : ∀ (l : List Int) (n : Int), (dealQ m S n l).length = l.length
  | [], _ => rfl
  | p :: r, n => by simp [dealQ, dealQ_len m S r]
theorem dealQ_take (m S : Int) : ∀ (k : Nat) (l : List Int) (n : Int), ((dealQ m S n l).take k).sum = m * (n + (l.take k).sum) / S - m * n / S
  | 0, l, n => by simp
  | k + 1, [], n => by simp [dealQ]
  | k + 1, p :: r, n => by simp [dealQ, dealQ_take m S k r, Int.add_assoc]; omega
theorem take_sum {l : List Int} {k : Nat} (h : k < l.length) : (l.take (k + 1)).sum = (l.take k).sum + l.getD k 0 := by
  obtain ⟨x, hd, hg, -, hat⟩ := drop_at h
  rw [List.take_add_one, hat, hg]; simp
theorem dealQ_at {m S : Int} {l : List Int} {k : Nat} (h : k < l.length) : (dealQ m S 0 l).getD k 0 = m * (l.take (k + 1)).sum / S - m * (l.take k).sum / S := by
  have h1 := take_sum (l := dealQ m S 0 l) (k := k) (by rw [dealQ_len]; exact h)
  rw [dealQ_take, dealQ_take] at h1
  simp only [Int.zero_add] at h1
  omega
end Go.Proofs.Ytkifajabiggfmaa
end
