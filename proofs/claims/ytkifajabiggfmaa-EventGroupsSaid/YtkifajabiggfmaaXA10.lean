import Derived.Test.YtkifajabiggfmaaXA9
section
set_option linter.unusedSimpArgs false
set_option linter.unusedVariables false
namespace Go.Proofs.Ytkifajabiggfmaa
set_option linter.unusedSimpArgs false
set_option linter.unusedVariables false
open Go.Bx
set_option maxRecDepth 10000
def rowsD (G : List (List Int)) : D := .sl false 1 G.length (nestD 0 cI 1 G)
theorem rSame2 (G H : List (List Int)) (hG : G.length ≤ 1000000) (hg : ∀ g, g ∈ G → g.length ≤ 1000000) : Ctr Try.prog 12 [.d (rowsD G), .d (rowsD H)] [] (.d (.bool (decide (G = H)))) [] [] := by
  by_cases hl : G.length = H.length
  · have d0 : (((G.length : Int) != (H.length : Int))) = false := by rw [bne_eq_false_iff_eq]; omega
    refine ctr_pure Try.func12 ok12 rfl cc12 cr12 Try.ntmps12 (by simp) rfl rfl ?_; intro c hP hfn; simp only [kc12, rowsD, d0, vcb, ↓evSo_some, ↓reduceIte, reduceCtorEq, seval]
    repeat' first
        | refine And.intro (fun h => ?_) (fun h => ?_)
        | refine And.intro (by first | omega | (simp only [maxLen, decide_eq_true_eq, decide_eq_false_iff_not] at *; omega)) ?_
        | (refine TR.aslO rfl rfl rfl rfl trivial (Nat.le_of_ble_eq_true rfl) ?_
           try simp only [d0, vcb, ↓evSo_some, ↓reduceIte, reduceCtorEq, seval])
        | refine And.intro trivial ?_
        | refine And.intro rfl ?_
        | fail
    refine vcC.loop (X := Nat) (fun k => ⟨[(0, .d (rowsD G)), (1, .d (rowsD H)), (5, .d (.int .i64 k))], [], []⟩)
      (fun k => k ≤ G.length ∧ ∀ j, j < k → G.getD j [] = H.getD j []) (fun k => G.length - k) 0 ⟨Nat.zero_le _, fun j hj => absurd hj (Nat.not_lt_zero j)⟩ (Wk.of _ hfn rfl (by simp only [rowsD, enb, vcb, ↓evSo_some, ↓reduceIte, reduceCtorEq, seval]) (by simp only [enb, vcb, ↓evSo_some, ↓reduceIte, reduceCtorEq, seval])) ?_
    rintro k ⟨hk, he⟩
    simp only [rowsD, vcb, ↓evSo_some, ↓reduceIte, reduceCtorEq, seval]
    refine ⟨fun h1 => ?_, fun h1 => ?_⟩
    · have hlt : k < G.length := by have := of_decide_eq_true h1; omega
      obtain ⟨g, hdg, hgg, hgm, -⟩ := drop_at hlt
      obtain ⟨g2, hdh, hgh, -, -⟩ := drop_at (l := H) (k := k) (by omega)
      have cs := s17 g g2 (by have := hg g hgm; omega)
      simp only [slK] at cs
      have e1 : ∀ d, G.getD k d = g := hgg
      have e2 : ∀ d, H.getD k d = g2 := hgh
      simp only [nestD, cI, e1, e2, vcb, ↓evSo_some, ↓reduceIte, reduceCtorEq, seval]
      repeat' first
          | (first
              | refine TR.p hP (by first | exact cs) (by repeat' first | exact trivial | (intro _; assumption) | apply And.intro) ?_
              | refine TR.gp hP rfl (fun _ => by first | exact cs) (fun _ => by repeat' first | exact trivial | (intro _; assumption) | apply And.intro) ?_
              | refine TR.pv hP rfl (by first | exact cs) trivial (by repeat' first | exact trivial | (intro _; assumption) | apply And.intro) ?_
             try simp only [nestD, cI, e1, e2, vcb, ↓evSo_some, ↓reduceIte, reduceCtorEq, seval])
          | refine And.intro (fun h => ?_) (fun h => ?_)
          | refine And.intro (by first | omega | (simp only [maxLen, decide_eq_true_eq, decide_eq_false_iff_not] at *; omega)) ?_
          | (refine TR.aslO rfl rfl rfl rfl trivial (Nat.le_of_ble_eq_true rfl) ?_
             try simp only [nestD, cI, e1, e2, vcb, ↓evSo_some, ↓reduceIte, reduceCtorEq, seval])
          | refine And.intro trivial ?_
          | refine And.intro rfl ?_
          | fail
      · have hne : g ≠ g2 := by simpa using h
        have : G ≠ H := fun e => hne (by rw [← hgg [], ← hgh [], e])
        exact RetK.pure (by simp only [rs12, rsb, vcb, ↓evSo_some, ↓reduceIte, reduceCtorEq, seval]) (by (simp only [rs12, rsb, vcb, ↓evSo_some, ↓reduceIte, reduceCtorEq, seval, enb, vcb, ↓evSo_some, ↓reduceIte, reduceCtorEq, seval]) <;> (first | simp [this]))
      · have hne : g = g2 := by simpa using h
        exact lopK.on (k + 1) ⟨hlt, fun j hj => by
          rcases Nat.lt_or_eq_of_le (Nat.le_of_lt_succ hj) with h2 | h2
          · exact he j h2
          · rw [h2, hgg, hgh, hne]⟩ (by omega) (Wk.of _ hfn rfl (by simp only [rowsD, nestD, cI, enb, vcb, ↓evSo_some, ↓reduceIte, reduceCtorEq, seval]; exact wS (by omega)) (by simp only [enb, vcb, ↓evSo_some, ↓reduceIte, reduceCtorEq, seval]))
    · have hkl : k = G.length := by have := of_decide_eq_false h1; omega
      have hGH : G = H := by
        refine List.ext_getElem? fun j => ?_
        by_cases hj : j < G.length
        · have := he j (by omega)
          rw [List.getD_eq_getElem?_getD, List.getD_eq_getElem?_getD, List.getElem?_eq_getElem hj, List.getElem?_eq_getElem (by omega : j < H.length)] at this
          rw [List.getElem?_eq_getElem hj, List.getElem?_eq_getElem (by omega : j < H.length)]
          simpa using this
        · rw [List.getElem?_eq_none (by omega), List.getElem?_eq_none (by omega)]
      repeat' first
          | refine And.intro (fun h => ?_) (fun h => ?_)
          | refine And.intro (by first | omega | (simp only [maxLen, decide_eq_true_eq, decide_eq_false_iff_not] at *; omega)) ?_
          | (refine TR.aslO rfl rfl rfl rfl trivial (Nat.le_of_ble_eq_true rfl) ?_
             try simp only [vcb, ↓evSo_some, ↓reduceIte, reduceCtorEq, seval])
          | refine And.intro trivial ?_
          | refine And.intro rfl ?_
          | fail
      exact RetK.pure (by simp only [rs12, rsb, vcb, ↓evSo_some, ↓reduceIte, reduceCtorEq, seval]) (by (simp only [rs12, rsb, vcb, ↓evSo_some, ↓reduceIte, reduceCtorEq, seval, enb, vcb, ↓evSo_some, ↓reduceIte, reduceCtorEq, seval]) <;> (first | simp [hGH]))
  · have d0 : (((G.length : Int) != (H.length : Int))) = true := by rw [bne_iff_ne]; omega
    have : G ≠ H := fun e => hl (by rw [e])
    refine ctr_pure Try.func12 ok12 rfl cc12 cr12 Try.ntmps12 (by simp) rfl rfl ?_; intro c hP hfn; simp only [kc12, rowsD, d0, vcb, ↓evSo_some, ↓reduceIte, reduceCtorEq, seval]
    repeat' first
        | refine And.intro (fun h => ?_) (fun h => ?_)
        | refine And.intro (by first | omega | (simp only [maxLen, decide_eq_true_eq, decide_eq_false_iff_not] at *; omega)) ?_
        | (refine TR.aslO rfl rfl rfl rfl trivial (Nat.le_of_ble_eq_true rfl) ?_
           try simp only [d0, vcb, ↓evSo_some, ↓reduceIte, reduceCtorEq, seval])
        | refine And.intro trivial ?_
        | refine And.intro rfl ?_
        | fail
    exact RetK.pure (by simp only [rs12, rsb, vcb, ↓evSo_some, ↓reduceIte, reduceCtorEq, seval]) (by (simp only [rs12, rsb, vcb, ↓evSo_some, ↓reduceIte, reduceCtorEq, seval, enb, vcb, ↓evSo_some, ↓reduceIte, reduceCtorEq, seval]) <;> (first | simp [this]))
end Go.Proofs.Ytkifajabiggfmaa
end
section
set_option linter.unusedSimpArgs false
set_option linter.unusedVariables false
namespace Go.Proofs.Ytkifajabiggfmaa
set_option linter.unusedSimpArgs false
set_option linter.unusedVariables false
open Go.Bx
set_option maxRecDepth 10000
theorem few (L : List Ls) : Ctr Try.prog 10 [.d (slX L)] [] (.d (.bool (decide (L.length ≤ 150)))) [] [] := by
  rw [show decide (L.length ≤ 150) = decide ((L.length : Int) ≤ 150) from decide_eq_decide.2 (by omega)]
  refine ctr_pure Try.func10 ok10 rfl cc10 cr10 Try.ntmps10 (by simp) rfl rfl ?_; intro c hP hfn; simp only [kc10, slX, vcb, ↓evSo_some, ↓reduceIte, reduceCtorEq, seval]
  exact RetK.pure (by simp only [rs10, rsb, vcb, ↓evSo_some, ↓reduceIte, reduceCtorEq, seval]) (by simp only [rs10, rsb, vcb, ↓evSo_some, ↓reduceIte, reduceCtorEq, seval, enb, vcb, ↓evSo_some, ↓reduceIte, reduceCtorEq, seval])
def ofT (a b c : Int) : Tr := ⟨1, 3, 1, 100, 0, a, b, c, 255⟩
def lossT (a b c : Int) : Ls := ⟨1, a, b, 0, c⟩
theorem lOf (a b c : Int) : Ctr Try.prog 25 [.d (.int .i64 a), .d (.int .i64 b), .d (.int .i64 c)] [] (vT (ofT a b c)) [] [] := by
  refine ctr_pure Try.func25 ok25 rfl cc25 cr25 Try.ntmps25 (by simp) rfl rfl ?_; intro c hP hfn; simp only [kc25, vcb, ↓evSo_some, ↓reduceIte, reduceCtorEq, seval]
  exact RetK.pure (by simp only [rs25, rsb, vcb, ↓evSo_some, ↓reduceIte, reduceCtorEq, seval]) (by simp only [rs25, rsb, vcb, ↓evSo_some, ↓reduceIte, reduceCtorEq, seval, enb, vcb, ↓evSo_some, ↓reduceIte, reduceCtorEq, seval, vT, cT, ofT])
theorem lLoss (a b c : Int) : Ctr Try.prog 24 [.d (.int .i64 a), .d (.int .i64 b), .d (.int .i64 c)] [] (vX (lossT a b c)) [] [] := by
  refine ctr_pure Try.func24 ok24 rfl cc24 cr24 Try.ntmps24 (by simp) rfl rfl ?_; intro c hP hfn; simp only [kc24, vcb, ↓evSo_some, ↓reduceIte, reduceCtorEq, seval]
  exact RetK.pure (by simp only [rs24, rsb, vcb, ↓evSo_some, ↓reduceIte, reduceCtorEq, seval]) (by simp only [rs24, rsb, vcb, ↓evSo_some, ↓reduceIte, reduceCtorEq, seval, enb, vcb, ↓evSo_some, ↓reduceIte, reduceCtorEq, seval, vX, cX', lossT])
theorem VLe.slD {full full' : Bool} {sz n : Nat} {f f' : Nat → List D} (hb : full' = true → full = true) (hf : ∀ i, i < n → (f i).length = (f' i).length ∧ ∀ (j : Nat) (x y : D), (f i)[j]? = some x → (f' i)[j]? = some y → VLe (.d x) (.d y)) : VLe (.d (.sl full sz n f)) (.d (.sl full' sz n f')) := by
  intro β E w v hv
  cases hv with
  | d _ _ hv =>
    refine .d _ _ ?_
    generalize hN : n = m at hv ⊢
    cases hv with
    | nil _ _ _ _ => exact .nil _ _ _ _
    | sl _ _ _ _ b off c g hc hfu hl hcell hrel =>
      subst hN
      refine .sl _ _ _ _ b off c g hc (fun h => hfu (hb h)) (fun i hi => by rw [← (hf i hi).1]; exact hl i hi) hcell (fun i j hi hj y hy => ?_)
      have hlt : j < (f i).length := by rw [hl i hi]; exact hj
      have h1 := hrel i j hi hj _ (List.getElem?_eq_getElem hlt)
      have h2 := (hf i hi).2 j _ y (List.getElem?_eq_getElem hlt) hy
      exact rel_d (h2 β E w _ (.d _ _ h1))
def exL : List Ls := [lossT 7 5 50, lossT 0 3 120, lossT 7 9 150]
theorem ex_bears0 : bearsE (ofT 100 60 0) exL = ([15, 0, 45], 0) := by decide +kernel
theorem ex_bears1 : bearsE (ofT 100 60 1) exL = ([15, 20, 45], 0) := by decide +kernel
theorem ex_bears2 : bearsE ⟨0, 0, 0, 0, 0, 0, 0, 0, 0⟩ exL = ([], 1) := by decide +kernel
theorem ex_group : groupT exL 3 = [[1, 0], [2]] := by decide +kernel
theorem ex_events : eventsT (ofT 1 1 1) exL = [[0, 2], [1]] := by decide +kernel
def eL : V := .d (.sl true 5 3 (litRow 5 [.int .i64 1, .int .i64 7, .int .i64 5, .int .i64 0, .int .i64 50, .int .i64 1, .int .i64 0, .int .i64 3, .int .i64 0, .int .i64 120, .int .i64 1, .int .i64 7, .int .i64 9, .int .i64 0, .int .i64 150]))
def eB0 : V := .d (.sl true 1 3 (litRow 1 [.int .i64 15, .int .i64 0, .int .i64 45]))
def eB1 : V := .d (.sl true 1 3 (litRow 1 [.int .i64 15, .int .i64 20, .int .i64 45]))
def eG : V := .d (.sl true 1 2 (litRow 1 [.sl true 1 2 (litRow 1 [.int .i64 1, .int .i64 0]), .sl true 1 1 (litRow 1 [.int .i64 2])]))
def eE : V := .d (.sl true 1 2 (litRow 1 [.sl true 1 2 (litRow 1 [.int .i64 0, .int .i64 2]), .sl true 1 1 (litRow 1 [.int .i64 1])]))
theorem vle_exL : VLe eL (.d (slX exL)) :=
  VLe.sl rfl (fun _ => rfl) (fun h => by cases h) fun i hi => by
    have : i = 0 ∨ i = 1 ∨ i = 2 := by omega
    rcases this with rfl | rfl | rfl <;> rfl
theorem vle_rows {a b c : Int} : VLe (.d (.sl true 1 2 (litRow 1 [.sl true 1 2 (litRow 1 [.int .i64 a, .int .i64 b]), .sl true 1 1 (litRow 1 [.int .i64 c])]))) (.d (rowsD [[a, b], [c]])) := by
  refine VLe.slD (fun h => by cases h) fun i hi => ?_
  have : i = 0 ∨ i = 1 := by omega
  rcases this with rfl | rfl <;> refine ⟨rfl, fun j x y hx hy => ?_⟩ <;> (
    have hj : j = 0 := by
      have := (List.getElem?_eq_some_iff.1 hy).1
      simp [nestD] at this; exact this
    subst hj
    simp [litRow] at hx
    simp [nestD] at hy
    subst hx; subst hy)
  · exact VLe.sl rfl (fun _ => rfl) (fun h => by cases h) fun i hi => by
      have : i = 0 ∨ i = 1 := by omega
      rcases this with rfl | rfl <;> rfl
  · exact VLe.sl rfl (fun _ => rfl) (fun h => by cases h) fun i hi => by
      have : i = 0 := by omega
      subst this; rfl
set_option maxHeartbeats 2000000 in
theorem lAlive : Ctr Try.prog 11 [] [] (.d (.bool true)) [] [] := by
  have c1 := sBears (ofT 100 60 0) exL (by decide)
  rw [ex_bears0] at c1
  have c1 := c1.arg (args := [vT (ofT 100 60 0), eL]) ⟨VLe.refl _, vle_exL, trivial⟩
  have c2 := sBears (ofT 100 60 1) exL (by decide)
  rw [ex_bears1] at c2
  have c2 := c2.arg (args := [vT (ofT 100 60 1), eL]) ⟨VLe.refl _, vle_exL, trivial⟩
  have c3 := sBears ⟨0, 0, 0, 0, 0, 0, 0, 0, 0⟩ exL (by decide)
  rw [ex_bears2] at c3
  have c3 := c3.arg (args := [vT ⟨0, 0, 0, 0, 0, 0, 0, 0, 0⟩, eL]) ⟨VLe.refl _, vle_exL, trivial⟩
  have c4 := (s17 [15, 0, 45] [15, 0, 45] (by decide)).arg (args := [.d (slK .i64 [15, 0, 45]), eB0]) ⟨VLe.refl _, LitI.vle (by repeat constructor) (by rfl), trivial⟩
  have c5 := (s17 [15, 20, 45] [15, 20, 45] (by decide)).arg (args := [.d (slK .i64 [15, 20, 45]), eB1]) ⟨VLe.refl _, LitI.vle (by repeat constructor) (by rfl), trivial⟩
  have c6 := sGroup exL 3 (by decide)
  rw [ex_group] at c6
  have c6 := c6.arg (args := [eL, .d (.int .i64 3)]) ⟨vle_exL, VLe.refl _, trivial⟩
  have c7 := (rSame2 [[1, 0], [2]] [[1, 0], [2]] (by decide) (by decide)).arg (args := [.d (rowsD [[1, 0], [2]]), eG]) ⟨VLe.refl _, vle_rows, trivial⟩
  have c8 := sEvents (ofT 1 1 1) exL (by decide)
  rw [ex_events] at c8
  have c8 := c8.arg (args := [vT (ofT 1 1 1), eL]) ⟨VLe.refl _, vle_exL, trivial⟩
  have c9 := (rSame2 [[0, 2], [1]] [[0, 2], [1]] (by decide) (by decide)).arg (args := [.d (rowsD [[0, 2], [1]]), eE]) ⟨VLe.refl _, vle_rows, trivial⟩
  have d1 := lLoss
  have d2 := lOf
  simp only [vT, vX, cT, cX', ofT, lossT, eL, eB0, eB1, eG, eE, rowsD, slK, List.length_cons, List.length_nil, Nat.zero_add, Nat.reduceAdd, decide_true] at c1 c2 c3 c4 c5 c6 c7 c8 c9 d1 d2
  refine ctr_pure Try.func11 ok11 rfl cc11 cr11 Try.ntmps11 (by simp) rfl rfl ?_; intro c hP hfn; simp only [kc11, vcb, ↓evSo_some, ↓reduceIte, reduceCtorEq, seval]
  repeat' first
      | (first
          | refine TR.p hP (by first | exact d1 _ _ _ | exact d2 _ _ _ | exact c1 | exact c2 | exact c3 | exact c4 | exact c5 | exact c6 | exact c7 | exact c8 | exact c9) (by repeat' first | exact trivial | (intro _; assumption) | apply And.intro) ?_
          | refine TR.gp hP rfl (fun _ => by first | exact d1 _ _ _ | exact d2 _ _ _ | exact c1 | exact c2 | exact c3 | exact c4 | exact c5 | exact c6 | exact c7 | exact c8 | exact c9) (fun _ => by repeat' first | exact trivial | (intro _; assumption) | apply And.intro) ?_
          | refine TR.pv hP rfl (by first | exact d1 _ _ _ | exact d2 _ _ _ | exact c1 | exact c2 | exact c3 | exact c4 | exact c5 | exact c6 | exact c7 | exact c8 | exact c9) trivial (by repeat' first | exact trivial | (intro _; assumption) | apply And.intro) ?_
         try simp only [Int.reduceBEq, Int.reduceNeg, vcb, ↓evSo_some, ↓reduceIte, reduceCtorEq, seval])
      | refine And.intro (fun h => ?_) (fun h => ?_)
      | refine And.intro (by first | omega | (simp only [maxLen, decide_eq_true_eq, decide_eq_false_iff_not] at *; omega)) ?_
      | (refine TR.aslO rfl rfl rfl rfl trivial (Nat.le_of_ble_eq_true rfl) ?_
         try simp only [Int.reduceBEq, Int.reduceNeg, vcb, ↓evSo_some, ↓reduceIte, reduceCtorEq, seval])
      | refine And.intro trivial ?_
      | refine And.intro rfl ?_
      | fail
  all_goals exact RetK.pure (by simp only [rs11, rsb, vcb, ↓evSo_some, ↓reduceIte, reduceCtorEq, seval]) (by (simp only [rs11, rsb, vcb, ↓evSo_some, ↓reduceIte, reduceCtorEq, seval, enb, vcb, ↓evSo_some, ↓reduceIte, reduceCtorEq, seval]) <;> (first | simp))
end Go.Proofs.Ytkifajabiggfmaa
end
section
set_option linter.unusedSimpArgs false
set_option linter.unusedVariables false
namespace Go.Proofs.Ytkifajabiggfmaa
set_option linter.unusedSimpArgs false
set_option linter.unusedVariables false
open Go.Bx
set_option maxRecDepth 10000
def leI (L : List Ls) (a b : Int) : Prop := dayI L a < dayI L b ∨ (dayI L a = dayI L b ∧ a ≤ b)
theorem mergeR_sorted (L : List Ls) : ∀ (a b : List Int), a.Pairwise (leI L) → b.Pairwise (leI L) → (∀ x, x ∈ a → ∀ y, y ∈ b → x < y) → (mergeR L a b).Pairwise (leI L)
  | [], b, _, hb, _ => by rw [mergeR]; exact hb
  | x :: a, [], ha, _, _ => by rw [mergeR]; exact ha
  | x :: a, y :: b, ha, hb, hx => by
    rw [mergeR]
    have ha' := List.pairwise_cons.1 ha
    have hb' := List.pairwise_cons.1 hb
    split
    · rename_i h
      refine List.pairwise_cons.2 ⟨fun z hz => ?_, mergeR_sorted L a (y :: b) ha'.2 hb (fun u hu v hv => hx u (List.mem_cons_of_mem _ hu) v hv)⟩
      rcases List.mem_append.1 ((mergeR_perm L a (y :: b)).mem_iff.1 hz) with h1 | h1
      · exact ha'.1 z h1
      · have h2 := hx x List.mem_cons_self z h1
        have h3 : dayI L y ≤ dayI L z := by
          rcases List.mem_cons.1 h1 with rfl | h1
          · exact Int.le_refl _
          · have := hb'.1 z h1; unfold leI at this; omega
        unfold leI; omega
    · rename_i h
      refine List.pairwise_cons.2 ⟨fun z hz => ?_, mergeR_sorted L (x :: a) b ha hb'.2 (fun u hu v hv => hx u hu v (List.mem_cons_of_mem _ hv))⟩
      rcases List.mem_append.1 ((mergeR_perm L (x :: a) b).mem_iff.1 hz) with h1 | h1
      · have h3 : dayI L x ≤ dayI L z := by
          rcases List.mem_cons.1 h1 with rfl | h1
          · exact Int.le_refl _
          · have := ha'.1 z h1; unfold leI at this; omega
        unfold leI; omega
      · exact hb'.1 z h1
termination_by a b => a.length + b.length
theorem orderR_mem {L : List Ls} {n f : Nat} {i : Int} (h : i ∈ orderR L f n) : (f : Int) ≤ i ∧ i < ((f + n : Nat) : Int) := by
  have := (orderR_perm L n f).mem_iff.1 h
  obtain ⟨j, hj, rfl⟩ := List.mem_map.1 this
  have := List.mem_range.1 hj
  omega
theorem orderR_sorted (L : List Ls) : ∀ n f, (orderR L f n).Pairwise (leI L) := by
  intro n
  induction n using Nat.strongRecOn with
  | _ n ih =>
    intro f
    by_cases h : 2 ≤ n
    · rw [orderR_2 L f n h]
      exact mergeR_sorted L _ _ (ih _ (by omega) _) (ih _ (by omega) _) (fun x hx y hy => by
        have := orderR_mem hx; have := orderR_mem hy; omega)
    · rcases (by omega : n = 0 ∨ n = 1) with rfl | rfl
      · rw [orderR_0]; exact List.Pairwise.nil
      · rw [orderR_1]; exact List.pairwise_singleton _ _
theorem dayI_nat (L : List Ls) (k : Nat) : dayI L (k : Int) = dayQ L k := by unfold dayI dayQ; rw [Int.toNat_natCast]
theorem ord_eq (L : List Ls) : (ordQ L).map (fun k : Nat => (k : Int)) = orderR L 0 L.length := by
  obtain ⟨h1, h2⟩ := ordQ_ok L
  have hp : ((ordQ L).map (fun k : Nat => (k : Int))).Perm (orderR L 0 L.length) := (h2.map _).trans ((orderR_perm L L.length 0).symm.trans (List.Perm.of_eq rfl) |> fun h => by simpa using h)
  refine List.Perm.eq_of_pairwise (le := leI L) (fun a b _ _ hab hba => by unfold leI at hab hba; omega) ?_ (orderR_sorted L _ _) hp
  rw [List.pairwise_map]
  refine h1.imp fun {a b} h => ?_
  have := (lessQ_false L b a).1 h
  unfold leI; rw [dayI_nat, dayI_nat]; omega
theorem rgRun_snoc (L : List Ls) (days : Int) (y : Int) : ∀ (l : List Int) (s : RgS), rgRun L days (l ++ [y]) s = rgStep L days y (rgRun L days l s)
  | [], _ => rfl
  | x :: l, s => rgRun_snoc L days y l _
structure GrRel (L : List Ls) (s : GrS) (r : RgS) : Prop where
  G : s.G = rgFin r
  op : 0 < r.g.length → s.op = dayI L (r.g.getD 0 0)
  e : r.g.length = 0 → r.G = []
theorem GrRel.step {L : List Ls} {days : Int} {s : GrS} {r : RgS} (h : GrRel L s r) (y : Nat) : GrRel L (grStep L days y s) (rgStep L days (y : Int) r) := by
  by_cases hg : 0 < r.g.length
  · have hG : s.G = r.G ++ [r.g] := by rw [h.G, rgFin, if_pos hg]
    have hl : s.G.length = r.G.length + 1 := by rw [hG]; simp
    have ho := h.op hg
    by_cases hc : max 1 days ≤ IntKind.i64.wrap (dayI L (y : Int) - dayI L (r.g.getD 0 0))
    · rw [grStep, if_pos (.inr (by rw [ho, ← dayI_nat]; exact hc)), rgStep, if_pos ⟨hg, hc⟩]
      exact ⟨by simp [rgFin, hG], fun _ => by simp [dayI_nat], fun h => by simp at h⟩
    · rw [grStep, if_neg (by rw [ho, ← dayI_nat]; omega), rgStep, if_neg (fun h => hc h.2)]
      refine ⟨?_, fun _ => ?_, fun h => by simp at h⟩
      · rw [rgFin, if_pos (by simp)]
        simp only [hl, Nat.add_sub_cancel]
        rw [hG]
        have e1 : (r.G ++ [r.g]).getD r.G.length [] = r.g := by rw [List.getD_eq_getElem?_getD, List.getElem?_append_right (Nat.le_refl _)]; simp
        rw [e1, List.set_append_right _ _ (Nat.le_refl _)]; simp
      · simp only; rw [ho]
        have : (r.g ++ [(y : Int)]).getD 0 0 = r.g.getD 0 0 := by rw [List.getD_eq_getElem?_getD, List.getElem?_append_left hg, ← List.getD_eq_getElem?_getD]
        rw [this]
  · have hg0 : r.g = [] := List.eq_nil_of_length_eq_zero (by omega)
    have hGr := h.e (by omega)
    have hG : s.G = [] := by rw [h.G, rgFin, if_neg hg, hGr]
    rw [grStep, if_pos (.inl (by rw [hG]; rfl)), rgStep, if_neg (fun h => hg h.1)]
    exact ⟨by simp [rgFin, hG, hg0, hGr], fun _ => by simp [hg0, dayI_nat], fun h => by simp at h⟩
theorem group_eq (L : List Ls) (days : Int) : groupT L days = groupR L days := by
  have key : ∀ k, k ≤ L.length → GrRel L (grRun L days k) (rgRun L days ((orderR L 0 L.length).take k) ⟨[], []⟩) := by
    intro k
    induction k with
    | zero => intro _; exact ⟨rfl, fun h => by simp [rgRun] at h, fun _ => by simp [rgRun]⟩
    | succ k ih =>
      intro hk
      have hlt : k < (ordQ L).length := by rw [ordQ_len]; omega
      have e : (orderR L 0 L.length).take (k + 1) = (orderR L 0 L.length).take k ++ [(((ordQ L).getD k 0 : Nat) : Int)] := by
        rw [← ord_eq, List.take_add_one, List.getElem?_map, List.getElem?_eq_getElem hlt, List.getD_eq_getElem?_getD, List.getElem?_eq_getElem hlt]; rfl
      rw [e, rgRun_snoc]
      exact (ih (by omega)).step _
  have h := key L.length (Nat.le_refl _)
  rw [List.take_of_length_le (by rw [orderR_len]; exact Nat.le_refl _)] at h
  exact h.G
theorem groupT_len (L : List Ls) (days : Int) : (groupT L days).length ≤ L.length ∧ ∀ g, g ∈ groupT L days → 1 ≤ g.length ∧ g.length ≤ L.length := by
  have h := grRun_ok L days L.length
  exact ⟨h.len, h.each⟩
theorem lGroups (l : List Ls) (days : Int) : Ctr Try.prog 3 [.d (slX l), .d (.int .i64 days)] [] (.d (.bool true)) [] [] := by
  have c0 := few l
  by_cases hl : l.length ≤ 150
  · have e1 : decide (l.length ≤ 150) = true := decide_eq_true hl
    have c1 := sGroup l days (by omega)
    have c2 := rGroup l days (by omega)
    rw [← group_eq] at c2
    have hg := groupT_len l days
    have c3 := rSame2 (groupT l days) (groupT l days) (by omega) (fun g h => by have := (hg.2 g h).2; omega)
    rw [e1] at c0
    simp only [slX, rowsD, decide_true] at c0 c1 c2 c3
    refine ctr_pure Try.func3 ok3 rfl cc3 cr3 Try.ntmps3 (by simp) rfl rfl ?_; intro c hP hfn; simp only [kc3, slX, vcb, ↓evSo_some, ↓reduceIte, reduceCtorEq, seval]
    repeat' first
        | (first
            | refine TR.p hP (by first | exact c0 | exact lAlive) (by repeat' first | exact trivial | (intro _; assumption) | apply And.intro) ?_
            | refine TR.gp hP rfl (fun _ => by first | exact c0 | exact lAlive) (fun _ => by repeat' first | exact trivial | (intro _; assumption) | apply And.intro) ?_
            | refine TR.pv hP rfl (by first | exact c0 | exact lAlive) trivial (by repeat' first | exact trivial | (intro _; assumption) | apply And.intro) ?_
           try simp only [vcb, ↓evSo_some, ↓reduceIte, reduceCtorEq, seval])
        | refine And.intro (fun h => ?_) (fun h => ?_)
        | refine And.intro (by first | omega | (simp only [maxLen, decide_eq_true_eq, decide_eq_false_iff_not] at *; omega)) ?_
        | (refine TR.aslO rfl rfl rfl rfl trivial (Nat.le_of_ble_eq_true rfl) ?_
           try simp only [vcb, ↓evSo_some, ↓reduceIte, reduceCtorEq, seval])
        | refine And.intro trivial ?_
        | refine And.intro rfl ?_
        | fail
    refine vcC.loop (X := Nat) (fun k => ⟨[(0, .d (slX l)), (1, .d (.int .i64 days)), (11, .d (slX l)), (12, .d (.int .i64 l.length)), (13, .d (.int .i64 k))], [], []⟩)
      (fun k => k ≤ l.length) (fun k => l.length - k) 0 (Nat.zero_le _) (Wk.of _ hfn rfl (by simp only [slX, enb, vcb, ↓evSo_some, ↓reduceIte, reduceCtorEq, seval]) (by simp only [enb, vcb, ↓evSo_some, ↓reduceIte, reduceCtorEq, seval])) ?_
    rintro k hk
    simp only [slX, vcb, ↓evSo_some, ↓reduceIte, reduceCtorEq, seval]
    refine ⟨fun h1 => ?_, fun h1 => ?_⟩
    · have hlt : k < l.length := by have := of_decide_eq_true h1; omega
      obtain ⟨x, hd, hg, -, -⟩ := drop_at hlt
      simp only [hg, vcb, ↓evSo_some, ↓reduceIte, reduceCtorEq, seval]
      repeat' first
          | (first
              | refine TR.p hP (by first | exact lAlive) (by repeat' first | exact trivial | (intro _; assumption) | apply And.intro) ?_
              | refine TR.gp hP rfl (fun _ => by first | exact lAlive) (fun _ => by repeat' first | exact trivial | (intro _; assumption) | apply And.intro) ?_
              | refine TR.pv hP rfl (by first | exact lAlive) trivial (by repeat' first | exact trivial | (intro _; assumption) | apply And.intro) ?_
             try simp only [hg, vcb, ↓evSo_some, ↓reduceIte, reduceCtorEq, seval])
          | refine And.intro (fun h => ?_) (fun h => ?_)
          | refine And.intro (by first | omega | (simp only [maxLen, decide_eq_true_eq, decide_eq_false_iff_not] at *; omega)) ?_
          | (refine TR.aslO rfl rfl rfl rfl trivial (Nat.le_of_ble_eq_true rfl) ?_
             try simp only [hg, vcb, ↓evSo_some, ↓reduceIte, reduceCtorEq, seval])
          | refine And.intro trivial ?_
          | refine And.intro rfl ?_
          | fail
      all_goals first
        | exact lopK.on (k + 1) hlt (by omega) (Wk.of _ hfn rfl (by simp only [slX, enb, vcb, ↓evSo_some, ↓reduceIte, reduceCtorEq, seval]; exact wS (by omega)) (by simp only [enb, vcb, ↓evSo_some, ↓reduceIte, reduceCtorEq, seval]))
        | (exact RetK.pure (by simp only [rs3, rsb, vcb, ↓evSo_some, ↓reduceIte, reduceCtorEq, seval]) (by (simp only [rs3, rsb, vcb, ↓evSo_some, ↓reduceIte, reduceCtorEq, seval, enb, vcb, ↓evSo_some, ↓reduceIte, reduceCtorEq, seval]) <;> (first | rfl)))
    · repeat' first
          | (first
              | refine TR.p hP (by first | exact lAlive | exact c1 | exact c2 | exact c3) (by repeat' first | exact trivial | (intro _; assumption) | apply And.intro) ?_
              | refine TR.gp hP rfl (fun _ => by first | exact lAlive | exact c1 | exact c2 | exact c3) (fun _ => by repeat' first | exact trivial | (intro _; assumption) | apply And.intro) ?_
              | refine TR.pv hP rfl (by first | exact lAlive | exact c1 | exact c2 | exact c3) trivial (by repeat' first | exact trivial | (intro _; assumption) | apply And.intro) ?_
             try simp only [vcb, ↓evSo_some, ↓reduceIte, reduceCtorEq, seval])
          | refine And.intro (fun h => ?_) (fun h => ?_)
          | refine And.intro (by first | omega | (simp only [maxLen, decide_eq_true_eq, decide_eq_false_iff_not] at *; omega)) ?_
          | (refine TR.aslO rfl rfl rfl rfl trivial (Nat.le_of_ble_eq_true rfl) ?_
             try simp only [vcb, ↓evSo_some, ↓reduceIte, reduceCtorEq, seval])
          | refine And.intro trivial ?_
          | refine And.intro rfl ?_
          | fail
      exact RetK.pure (by simp only [rs3, rsb, vcb, ↓evSo_some, ↓reduceIte, reduceCtorEq, seval]) (by (simp only [rs3, rsb, vcb, ↓evSo_some, ↓reduceIte, reduceCtorEq, seval, enb, vcb, ↓evSo_some, ↓reduceIte, reduceCtorEq, seval]) <;> (first | simp))
  · have e1 : decide (l.length ≤ 150) = false := decide_eq_false hl
    rw [e1] at c0
    simp only [slX] at c0
    refine ctr_pure Try.func3 ok3 rfl cc3 cr3 Try.ntmps3 (by simp) rfl rfl ?_; intro c hP hfn; simp only [kc3, slX, vcb, ↓evSo_some, ↓reduceIte, reduceCtorEq, seval]
    repeat' first
        | (first
            | refine TR.p hP (by first | exact c0 | exact lAlive) (by repeat' first | exact trivial | (intro _; assumption) | apply And.intro) ?_
            | refine TR.gp hP rfl (fun _ => by first | exact c0 | exact lAlive) (fun _ => by repeat' first | exact trivial | (intro _; assumption) | apply And.intro) ?_
            | refine TR.pv hP rfl (by first | exact c0 | exact lAlive) trivial (by repeat' first | exact trivial | (intro _; assumption) | apply And.intro) ?_
           try simp only [vcb, ↓evSo_some, ↓reduceIte, reduceCtorEq, seval])
        | refine And.intro (fun h => ?_) (fun h => ?_)
        | refine And.intro (by first | omega | (simp only [maxLen, decide_eq_true_eq, decide_eq_false_iff_not] at *; omega)) ?_
        | (refine TR.aslO rfl rfl rfl rfl trivial (Nat.le_of_ble_eq_true rfl) ?_
           try simp only [vcb, ↓evSo_some, ↓reduceIte, reduceCtorEq, seval])
        | refine And.intro trivial ?_
        | refine And.intro rfl ?_
        | fail
    exact RetK.pure (by simp only [rs3, rsb, vcb, ↓evSo_some, ↓reduceIte, reduceCtorEq, seval]) (by (simp only [rs3, rsb, vcb, ↓evSo_some, ↓reduceIte, reduceCtorEq, seval, enb, vcb, ↓evSo_some, ↓reduceIte, reduceCtorEq, seval]) <;> (first | simp))
end Go.Proofs.Ytkifajabiggfmaa
end
section
set_option linter.unusedSimpArgs false
set_option linter.unusedVariables false
namespace Go.Proofs.Ytkifajabiggfmaa
set_option linter.unusedSimpArgs false
set_option linter.unusedVariables false
open Go.ChangeShapes Go.WideShapes Go.ChangeAt Go.RowKit Go.Bx
set_option maxRecDepth 100000
theorem eventGroups_lifted (os : Os) (started : os.Started) (H : Type) (enc : TypeId × Value → H) :
    ReturnsInHanded {} Try.checked os 3 .any (Rows.eventGroupsSpec.pre6 enc Try.prog Try.f3 Rows.eventGroupsRow.domain false) (Rows.eventGroupsSpec.post enc Try.prog Try.f3 false true false false) := by
  refine returnsInHanded_of_change (C := Try.checked) Try.own started (by kernel_rfl) Try.func3
    (ChangeSpec.witness6 (enc := enc) (C := Try.checked) false ⟨#[], #[.slice none 0 0, .int .i64 0], []⟩ 8 (by kernel_rfl) (by kernel_rfl) (by kernel_rfl) (by kernel_rfl)) ?_
  intro W base args ds gs before hval hW _ _
  refine law_calls (tb := 4) Try.laidOut (by kernel_rfl) (by kernel_rfl) Try.underlying4 rfl ?_ ?_ W base args ds gs before hval hW
  · intro ds hd
    match ds, hd with
    | [_, _], _ => rfl
  · intro W base args ds p hval hA
    rw [show Try.f3.params.toList = [22, 3] by kernel_rfl] at hA
    obtain ⟨v0, v1, d0, d1, p0, p1, rfl, rfl, _, h0, h1⟩ := trodAll_two hA
    obtain ⟨l, lk, r0⟩ := losses_reads.cell (by kernel_rfl) (hval 0 22 v0 rfl rfl) h0
    obtain ⟨days, daysk, r1⟩ := int_reads.cell (by kernel_rfl) (hval 1 3 v1 rfl rfl) h1
    exact ⟨[.d (slX l), .d (.int .i64 days)], rfl, rel2 r0 r1, lGroups l days⟩
theorem eventGroups_holds : Rows.EventGroupsSaid :=
  OpenClaim.holds_of_wide 3 Try.f3 rfl rfl rfl rfl rfl rfl rfl ⟨rfl, rfl, rfl, rfl, rfl⟩ rfl rfl rfl rfl rfl (by kernel_rfl) Try.func3 (by kernel_rfl)
    (of_decide_eq_true (by kernel_rfl)) (by unfold Func.isWrapper; first | (rw [if_pos (by decide +kernel)]; kernel_rfl) | (rw [if_neg (by decide +kernel)]; exact ⟨rfl, rfl⟩))
    (fun os started H enc _ => eventGroups_lifted os started H enc)
end Go.Proofs.Ytkifajabiggfmaa
end
