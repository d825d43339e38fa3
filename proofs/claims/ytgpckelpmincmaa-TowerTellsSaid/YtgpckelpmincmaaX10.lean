import Derived.Test.YtgpckelpmincmaaX9
section
set_option linter.unusedSimpArgs false
set_option linter.unusedVariables false
namespace Go.Proofs.Ytgpckelpmincmaa
set_option linter.unusedSimpArgs false
set_option linter.unusedVariables false
open Go.Bx
set_option maxRecDepth 10000
structure Pl where
  k : Int
  a : Int
  i : Int
  deriving Inhabited, DecidableEq
def rowP (l : List Pl) : Own := .row 61 3 l.length (fun i => [.int .i64 (l.getD i default).k, .int .i64 (l.getD i default).a, .int .i64 (l.getD i default).i])
def vP (p : Pl) : V := .ag [.d (.int .i64 p.k), .d (.int .i64 p.a), .d (.int .i64 p.i)]
def cmpI (a b : Int) : Int := if a < b then -1 else if b < a then 1 else 0
theorem sNaN (a : Int) : Ctr Try.prog 118 [.d (.int .i64 a)] [] (.d (.bool false)) [] [] := by
  refine ctr_pure Try.func118 ok118 rfl cc118 cr118 Try.ntmps118 (by simp) rfl rfl ?_; intro c hP hfn; simp only [kc118, vcb, ↓evSo_some, ↓reduceIte, reduceCtorEq, seval]
  exact RetK.pure (by simp only [rs118, rsb, vcb, ↓evSo_some, ↓reduceIte, reduceCtorEq, seval]) (by (simp only [rs118, rsb, vcb, ↓evSo_some, ↓reduceIte, reduceCtorEq, seval, enb, vcb, ↓evSo_some, ↓reduceIte, reduceCtorEq, seval]) <;> (first | simp))
theorem sCmpI (a b : Int) : Ctr Try.prog 117 [.d (.int .i64 a), .d (.int .i64 b)] [] (.d (.int .i64 (cmpI a b))) [] [] := by
  refine ctr_pure Try.func117 ok117 rfl cc117 cr117 Try.ntmps117 (by simp) rfl rfl ?_; intro c hP hfn; simp only [kc117, vcb, ↓evSo_some, ↓reduceIte, reduceCtorEq, seval]
  repeat' first
      | (first
          | refine TR.p hP (by first | exact sNaN a | exact sNaN b) (by repeat' first | exact trivial | (intro _; assumption) | apply And.intro) ?_
          | refine TR.gp hP rfl (fun _ => by first | exact sNaN a | exact sNaN b) (fun _ => by repeat' first | exact trivial | (intro _; assumption) | apply And.intro) ?_
          | refine TR.pv hP rfl (by first | exact sNaN a | exact sNaN b) trivial (by repeat' first | exact trivial | (intro _; assumption) | apply And.intro) ?_
         try simp only [vcb, ↓evSo_some, ↓reduceIte, reduceCtorEq, seval])
      | refine And.intro (fun h => ?_) (fun h => ?_)
      | refine And.intro (by first | omega | (simp only [maxLen, decide_eq_true_eq, decide_eq_false_iff_not] at *; omega)) ?_
      | (refine TR.aslO rfl rfl rfl rfl trivial (Nat.le_of_ble_eq_true rfl) ?_
         try simp only [vcb, ↓evSo_some, ↓reduceIte, reduceCtorEq, seval])
      | refine And.intro trivial ?_
      | refine And.intro rfl ?_
      | fail
  · have h' := of_decide_eq_true h
    exact RetK.pure (by simp only [rs117, rsb, vcb, ↓evSo_some, ↓reduceIte, reduceCtorEq, seval]) (by (simp only [rs117, rsb, vcb, ↓evSo_some, ↓reduceIte, reduceCtorEq, seval, enb, vcb, ↓evSo_some, ↓reduceIte, reduceCtorEq, seval]) <;> (first | simp [cmpI, h']))
  · have h' := of_decide_eq_true h
    have h2 : ¬ a < b := by omega
    exact RetK.pure (by simp only [rs117, rsb, vcb, ↓evSo_some, ↓reduceIte, reduceCtorEq, seval]) (by (simp only [rs117, rsb, vcb, ↓evSo_some, ↓reduceIte, reduceCtorEq, seval, enb, vcb, ↓evSo_some, ↓reduceIte, reduceCtorEq, seval]) <;> (first | simp only [cmpI, if_neg h2, if_pos h']))
  · rename_i h0
    have h' := of_decide_eq_false h
    have h2 := of_decide_eq_false h0
    exact RetK.pure (by simp only [rs117, rsb, vcb, ↓evSo_some, ↓reduceIte, reduceCtorEq, seval]) (by (simp only [rs117, rsb, vcb, ↓evSo_some, ↓reduceIte, reduceCtorEq, seval, enb, vcb, ↓evSo_some, ↓reduceIte, reduceCtorEq, seval]) <;> (first | simp only [cmpI, if_neg h2, if_neg h']))
def cmp3 (a b : Pl) : Int := if cmpI a.k b.k ≠ 0 then cmpI a.k b.k else if cmpI a.a b.a ≠ 0 then cmpI a.a b.a else cmpI a.i b.i
def lessP (a b : Pl) : Bool := decide (cmp3 a b < 0)
def row3 (p : Pl) : List Int := [p.k, p.a, p.i]
def compR : List Int → List Int → Int
  | x :: xs, y :: ys => if cmpI x y ≠ 0 then cmpI x y else compR xs ys
  | [], _ => 0
  | _ :: _, [] => 1
theorem sCompare (a b : List Int) (hab : a.length = b.length) (hl : a.length ≤ 1000) : Ctr Try.prog 116 [.d (slK .i64 a), .d (slK .i64 b)] [] (.d (.int .i64 (compR a b))) [] [] := by
  refine ctr_pure Try.func116 ok116 rfl cc116 cr116 Try.ntmps116 (by simp) rfl rfl ?_; intro c hP hfn; simp only [kc116, vcb, ↓evSo_some, ↓reduceIte, reduceCtorEq, seval]
  refine vcC.loop (X := Nat) (fun k => ⟨[(0, .d (slK .i64 a)), (1, .d (slK .i64 b)), (9, .d (slK .i64 a)), (10, .d (.int .i64 a.length)), (11, .d (.int .i64 k))], [], []⟩)
    (fun k => k ≤ a.length ∧ compR a b = compR (a.drop k) (b.drop k)) (fun k => a.length - k) 0 ⟨Nat.zero_le _, rfl⟩ (Wk.of [] hfn rfl (by (simp only [enb, vcb, ↓evSo_some, ↓reduceIte, reduceCtorEq, seval]) <;> (first | exact wS (by omega) | (rw [List.length_append]; exact wS (by omega)) | assumption)) (by simp only [enb, vcb, ↓evSo_some, ↓reduceIte, reduceCtorEq, seval])) ?_
  rintro k ⟨hk, he⟩
  simp only [vcb, ↓evSo_some, ↓reduceIte, reduceCtorEq, seval]
  refine ⟨fun h1 => ?_, fun h1 => ?_⟩
  · have hlt : k < a.length := by have := of_decide_eq_true h1; omega
    obtain ⟨x, hd, hg, -, -⟩ := drop_at hlt
    obtain ⟨y, hd', hg', -, -⟩ := drop_at (l := b) (k := k) (by omega)
    have hb : decide ((k : Int) ≥ (b.length : Int)) = false := by rw [decide_eq_false_iff_not]; omega
    simp only [hg, hg', hb, vcb, ↓evSo_some, ↓reduceIte, reduceCtorEq, seval]
    rw [hd, hd', compR] at he
    repeat' first
        | (first
            | refine TR.p hP (by first | exact sCmpI x y) (by repeat' first | exact trivial | (intro _; assumption) | apply And.intro) ?_
            | refine TR.gp hP rfl (fun _ => by first | exact sCmpI x y) (fun _ => by repeat' first | exact trivial | (intro _; assumption) | apply And.intro) ?_
            | refine TR.pv hP rfl (by first | exact sCmpI x y) trivial (by repeat' first | exact trivial | (intro _; assumption) | apply And.intro) ?_
           try simp only [hg, hg', hb, vcb, ↓evSo_some, ↓reduceIte, reduceCtorEq, seval])
        | refine And.intro (fun h => ?_) (fun h => ?_)
        | refine And.intro (by first | omega | (simp only [maxLen, decide_eq_true_eq, decide_eq_false_iff_not] at *; omega)) ?_
        | (refine TR.aslO rfl rfl rfl rfl trivial (Nat.le_of_ble_eq_true rfl) ?_
           try simp only [hg, hg', hb, vcb, ↓evSo_some, ↓reduceIte, reduceCtorEq, seval])
        | refine And.intro trivial ?_
        | refine And.intro rfl ?_
        | fail
    · have h' : cmpI x y ≠ 0 := by simpa using h
      exact RetK.pure (by simp only [rs116, rsb, vcb, ↓evSo_some, ↓reduceIte, reduceCtorEq, seval]) (by (simp only [rs116, rsb, vcb, ↓evSo_some, ↓reduceIte, reduceCtorEq, seval, enb, vcb, ↓evSo_some, ↓reduceIte, reduceCtorEq, seval]) <;> (first | rw [he, if_pos h']))
    · have h' : ¬ cmpI x y ≠ 0 := by simpa using h
      rw [if_neg h'] at he
      exact lopK.on (k + 1) ⟨hlt, he⟩ (by omega) (Wk.of [] hfn rfl (by (simp only [enb, vcb, ↓evSo_some, ↓reduceIte, reduceCtorEq, seval]) <;> (first | exact wS (by omega) | (rw [List.length_append]; exact wS (by omega)) | assumption)) (by simp only [enb, vcb, ↓evSo_some, ↓reduceIte, reduceCtorEq, seval]))
  · have hkl : k = a.length := by have := of_decide_eq_false h1; omega
    have e : compR a b = 0 := by rw [he, hkl]; simp [compR]
    have hb : decide (((a.length : Nat) : Int) < (b.length : Int)) = false := by rw [decide_eq_false_iff_not]; omega
    simp only [hb, vcb, ↓evSo_some, ↓reduceIte, reduceCtorEq, seval]
    repeat' first
        | refine And.intro (fun h => ?_) (fun h => ?_)
        | refine And.intro (by first | omega | (simp only [maxLen, decide_eq_true_eq, decide_eq_false_iff_not] at *; omega)) ?_
        | (refine TR.aslO rfl rfl rfl rfl trivial (Nat.le_of_ble_eq_true rfl) ?_
           try simp only [hb, vcb, ↓evSo_some, ↓reduceIte, reduceCtorEq, seval])
        | refine And.intro trivial ?_
        | refine And.intro rfl ?_
        | fail
    all_goals exact RetK.pure (by simp only [rs116, rsb, vcb, ↓evSo_some, ↓reduceIte, reduceCtorEq, seval]) (by (simp only [rs116, rsb, vcb, ↓evSo_some, ↓reduceIte, reduceCtorEq, seval, enb, vcb, ↓evSo_some, ↓reduceIte, reduceCtorEq, seval]) <;> (first | rw [e]))
theorem sCompare' {n m : Nat} {full full' : Bool} {ds ds' : List D} {a b : List Int} (h : LitI .i64 ds a) (h' : LitI .i64 ds' b) (hn : n = a.length) (hm : m = b.length) (hab : a.length = b.length) (hl : a.length ≤ 1000) :
    Ctr Try.prog 116 [.d (.sl full 1 n (litRow 1 ds)), .d (.sl full' 1 m (litRow 1 ds'))] [] (.d (.int .i64 (compR a b))) [] [] :=
  (sCompare a b hab hl).arg ⟨h.vle hn, h'.vle hm, trivial⟩
theorem compR3 (p q : Pl) : compR (row3 p) (row3 q) = cmp3 p q := by
  simp only [row3, compR, cmp3]
  by_cases h1 : cmpI p.k q.k = 0
  · by_cases h2 : cmpI p.a q.a = 0
    · by_cases h3 : cmpI p.i q.i = 0
      · simp [h1, h2, h3]
      · simp [h1, h2, h3]
    · simp [h1, h2]
  · simp [h1]
theorem sLen (l : List Pl) : Ctr Try.prog 31 [.osl 2] [(2, rowP l)] (.d (.int .i64 l.length)) [(2, rowP l)] [] := by
  refine ctr_own Try.func31 ok31 rfl cc31 cr31 Try.ntmps31 (by simp) rfl ?_
  intro c hP hfn
  simp only [kc31, namesL, V.names, ownNames, rowP, vcb, ↓evSo_some, ↓reduceIte, reduceCtorEq, seval]
  refine RetK.mk _ (Wk.refl _ _) (by simp only [rs31, rsb, vcb, ↓evSo_some, ↓reduceIte, reduceCtorEq, seval]) (by simp only [rs31, rsb, vcb, ↓evSo_some, ↓reduceIte, reduceCtorEq, seval, enb, vcb, ↓evSo_some, ↓reduceIte, reduceCtorEq, seval]) (by simp only [enb, vcb, ↓evSo_some, ↓reduceIte, reduceCtorEq, seval])
set_option maxHeartbeats 1000000 in
theorem sLess (l : List Pl) (i j : Nat) (hi : i < l.length) (hj : j < l.length) :
    Ctr Try.prog 112 [.osl 2, .d (.int .i64 i), .d (.int .i64 j)] [(2, rowP l)] (.d (.bool (lessP (l.getD i default) (l.getD j default)))) [(2, rowP l)] [] := by
  refine ctr_own Try.func112 ok112 rfl cc112 cr112 Try.ntmps112 (by simp) rfl ?_
  intro c hP hfn
  have hw : ∀ p q : Pl, Ctr Try.prog 116 [.d (.sl true 1 3 (litRow 1 [.int .i64 p.k, .int .i64 p.a, .int .i64 p.i])), .d (.sl true 1 3 (litRow 1 [.int .i64 q.k, .int .i64 q.a, .int .i64 q.i]))] [] (.d (.int .i64 (cmp3 p q))) [] [] := fun p q => by
    have := sCompare' (full := true) (full' := true) (n := 3) (m := 3) (ds := [.int .i64 p.k, .int .i64 p.a, .int .i64 p.i]) (ds' := [.int .i64 q.k, .int .i64 q.a, .int .i64 q.i]) (a := row3 p) (b := row3 q) (by repeat constructor) (by repeat constructor) rfl rfl rfl (by simp [row3])
    rwa [compR3] at this
  have hI := hw (l.getD i default) (l.getD j default)
  have h1 : (0 : Int) ≤ (i : Int) ∧ (i : Int) < l.length := by omega
  have h2 : (0 : Int) ≤ (j : Int) ∧ (j : Int) < l.length := by omega
  simp only [kc112, namesL, V.names, ownNames, rowP, vcb, ↓evSo_some, ↓reduceIte, reduceCtorEq, seval]
  repeat' first
      | (first
          | refine TR.p hP (by first | exact hI) (by repeat' first | exact trivial | (intro _; assumption) | apply And.intro) ?_
          | refine TR.gp hP rfl (fun _ => by first | exact hI) (fun _ => by repeat' first | exact trivial | (intro _; assumption) | apply And.intro) ?_
          | refine TR.pv hP rfl (by first | exact hI) trivial (by repeat' first | exact trivial | (intro _; assumption) | apply And.intro) ?_
         try simp only [vcb, ↓evSo_some, ↓reduceIte, reduceCtorEq, seval])
      | refine And.intro (fun h => ?_) (fun h => ?_)
      | refine And.intro (by first | omega | (simp only [maxLen, decide_eq_true_eq, decide_eq_false_iff_not] at *; omega)) ?_
      | (refine TR.aslO rfl rfl rfl rfl trivial (Nat.le_of_ble_eq_true rfl) ?_
         try simp only [vcb, ↓evSo_some, ↓reduceIte, reduceCtorEq, seval])
      | refine And.intro trivial ?_
      | refine And.intro rfl ?_
      | fail
  refine RetK.mk _ (Wk.refl _ _) (by simp only [rs112, rsb, vcb, ↓evSo_some, ↓reduceIte, reduceCtorEq, seval]) (by simp only [rs112, rsb, vcb, ↓evSo_some, ↓reduceIte, reduceCtorEq, seval, enb, vcb, ↓evSo_some, ↓reduceIte, reduceCtorEq, seval, lessP]) (by simp only [enb, vcb, ↓evSo_some, ↓reduceIte, reduceCtorEq, seval])
theorem sSwap (l : List Pl) (i j : Nat) (hi : i < l.length) (hj : j < l.length) :
    Ctr Try.prog 115 [.osl 2, .d (.int .i64 i), .d (.int .i64 j)] [(2, rowP l)] (.tup []) [(2, rowP (swp default l i j))] [] := by
  refine ctr_own Try.func115 ok115 rfl cc115 cr115 Try.ntmps115 (by simp) rfl ?_
  intro c hP hfn
  have h1 : (0 : Int) ≤ (i : Int) ∧ (i : Int) < l.length := by omega
  have h2 : (0 : Int) ≤ (j : Int) ∧ (j : Int) < l.length := by omega
  simp only [kc115, namesL, V.names, ownNames, rowP, vcb, ↓evSo_some, ↓reduceIte, reduceCtorEq, seval]
  repeat' first
      | refine And.intro (fun h => ?_) (fun h => ?_)
      | refine And.intro (by first | omega | (simp only [maxLen, decide_eq_true_eq, decide_eq_false_iff_not] at *; omega)) ?_
      | (refine TR.aslO rfl rfl rfl rfl trivial (Nat.le_of_ble_eq_true rfl) ?_
         try simp only [vcb, ↓evSo_some, ↓reduceIte, reduceCtorEq, seval])
      | refine And.intro trivial ?_
      | refine And.intro rfl ?_
      | fail
  refine RetK.mk' _ (Wk.refl _ _) (by simp only [rs115, rsb, vcb, ↓evSo_some, ↓reduceIte, reduceCtorEq, seval]) (by simp only [rs115, rsb, vcb, ↓evSo_some, ↓reduceIte, reduceCtorEq, seval, enb, vcb, ↓evSo_some, ↓reduceIte, reduceCtorEq, seval]) ?_
  simp only [enb, vcb, ↓evSo_some, ↓reduceIte, reduceCtorEq, seval]
  refine OLe.row (swp_len _ _ _ _).symm fun m hm => ?_
  rw [swp_get default hi hj m]
  by_cases e1 : m = j
  · subst e1; simp [putD]; try (split <;> simp_all [putD])
  · rw [if_neg e1, if_neg e1]
    by_cases e2 : m = i
    · subst e2; simp [putD]
    · rw [if_neg e2, if_neg e2]
theorem sPush (l : List Pl) (x : Pl) (hl : l.length ≤ 1000000) :
    Ctr Try.prog 114 [.own 1 0, .ifc 61 (vP x)] [(1, .fix [.osl 2]), (2, rowP l)] (.tup []) [(1, .fix [.osl 3]), (3, rowP (l ++ [x]))] [3] := by
  refine ctr_own Try.func114 ok114 rfl cc114 cr114 Try.ntmps114 (by simp) rfl ?_
  intro c hP hfn
  have hb : (l.length + 1) * 24 ≤ 140737488355328 := by omega
  have hm : l.length + 1 ≤ maxLen := by simp only [maxLen]; omega
  simp only [kc114, namesL, V.names, ownNames, rowP, vP, hb, hm, vcb, ↓evSo_some, ↓reduceIte, reduceCtorEq, seval]
  repeat' first
      | refine And.intro (fun h => ?_) (fun h => ?_)
      | refine And.intro (by first | omega | (simp only [maxLen, decide_eq_true_eq, decide_eq_false_iff_not] at *; omega)) ?_
      | (refine TR.aslO rfl rfl rfl rfl trivial (Nat.le_of_ble_eq_true rfl) ?_
         try simp only [vcb, ↓evSo_some, ↓reduceIte, reduceCtorEq, seval])
      | refine And.intro trivial ?_
      | refine And.intro rfl ?_
      | fail
  refine RetK.mk' _ (Wk.sw 11 3 _ hfn (by simp [namesL, V.names, ownNames, vP, rowP]) (by simp [namesL, V.names, ownNames, vP, rowP])) (by simp only [rs114, rsb, vcb, ↓evSo_some, ↓reduceIte, reduceCtorEq, seval]) (by simp only [rs114, rsb, vcb, ↓evSo_some, ↓reduceIte, reduceCtorEq, seval, enb, vcb, ↓evSo_some, ↓reduceIte, reduceCtorEq, seval]) ?_
  simp only [enb, vcb, ↓evSo_some, ↓reduceIte, reduceCtorEq, seval]
  refine (OLe.app1 (fun p : Pl => [.int .i64 p.k, .int .i64 p.a, .int .i64 p.i]) (fun i hi => by simp [hi]) (by simp [litRow]))
theorem sPop (l : List Pl) (h0 : 0 < l.length) (hl : l.length ≤ 1000000) :
    Ctr Try.prog 113 [.own 1 0] [(1, .fix [.osl 2]), (2, rowP l)] (.ifc 61 (vP (l.getD (l.length - 1) default))) [(1, .fix [.osl 3]), (3, rowP (l.take (l.length - 1)))] [3] := by
  refine ctr_own Try.func113 ok113 rfl cc113 cr113 Try.ntmps113 (by simp) rfl ?_
  intro c hP hfn
  have e1 : IntKind.i64.wrap ((l.length : Int) - 1) = ((l.length - 1 : Nat) : Int) := by rw [wI (by omega)]; omega
  have h1 : (0 : Int) ≤ ((l.length - 1 : Nat) : Int) ∧ ((l.length - 1 : Nat) : Int) < l.length := by omega
  have h2 : ((l.length - 1 : Nat) : Int) ≤ (l.length : Int) := by omega
  simp only [kc113, namesL, V.names, ownNames, rowP, vP, e1, vcb, ↓evSo_some, ↓reduceIte, reduceCtorEq, seval]
  repeat' first
      | refine And.intro (fun h => ?_) (fun h => ?_)
      | refine And.intro (by first | omega | (simp only [maxLen, decide_eq_true_eq, decide_eq_false_iff_not] at *; omega)) ?_
      | (refine TR.aslO rfl rfl rfl rfl trivial (Nat.le_of_ble_eq_true rfl) ?_
         try simp only [e1, vcb, ↓evSo_some, ↓reduceIte, reduceCtorEq, seval])
      | refine And.intro trivial ?_
      | refine And.intro rfl ?_
      | fail
  refine RetK.mk _ (Wk.shr 2 3 (l.length - 1) rfl (by omega) (by simp [namesL, V.names, ownNames, vP, rowP])) (by simp only [rs113, rsb, vcb, ↓evSo_some, ↓reduceIte, reduceCtorEq, seval]) (by simp only [rs113, rsb, vcb, ↓evSo_some, ↓reduceIte, reduceCtorEq, seval, enb, vcb, ↓evSo_some, ↓reduceIte, reduceCtorEq, seval]) ?_
  simp only [enb, vcb, ↓evSo_some, ↓reduceIte, reduceCtorEq, seval]
  refine OLe.row (by simp) fun i hi => ?_
  have hi2 : i < l.length := by omega
  simp [List.getD_eq_getElem?_getD, List.getElem?_take, hi, hi2]
theorem mLess : mth Try.prog 57 "Less" = some (112, false) := by kernel_rfl
theorem mSwap : mth Try.prog 57 "Swap" = some (115, false) := by kernel_rfl
theorem mLen : mth Try.prog 57 "Len" = some (31, false) := by kernel_rfl
theorem mPush : mth Try.prog 57 "Push" = some (114, true) := by kernel_rfl
theorem mPop : mth Try.prog 57 "Pop" = some (113, true) := by kernel_rfl
theorem uPl : Try.prog.underlying 57 = some (.pointer 59) := by kernel_rfl
theorem zPl : szB Try.prog 59 = some 1 := by kernel_rfl
theorem aPl : aggB Try.prog 59 = some false := by kernel_rfl
def vH : V := .ifc 57 (.own 1 0)
set_option maxHeartbeats 1000000 in
theorem sUp (l : List Pl) (j : Nat) (hj : j < l.length) (hl : l.length ≤ 1000000) :
    Ctr Try.prog 55 [vH, .d (.int .i64 j)] [(1, .fix [.osl 2]), (2, rowP l)] (.tup []) [(1, .fix [.osl 2]), (2, rowP (upL default lessP j l))] [] := by
  refine ctr_own Try.func55 ok55 rfl cc55 cr55 Try.ntmps55 (by simp [vH]) rfl ?_
  intro c hP hfn
  simp only [kc55, namesL, V.names, ownNames, vH, vcb, ↓evSo_some, ↓reduceIte, reduceCtorEq, seval]
  refine vcC.loop (X := Nat × List Pl) (fun x => ⟨[(0, vH), (1, .d (.int .i64 x.1))], [(1, .fix [.osl 2]), (2, rowP x.2)], [1, 2]⟩)
    (fun x => x.1 < x.2.length ∧ x.2.length = l.length ∧ upL default lessP j l = upL default lessP x.1 x.2) (fun x => x.1) (j, l) ⟨hj, rfl, rfl⟩ (Wk.of _ hfn rfl (by simp only [vH, enb, vcb, ↓evSo_some, ↓reduceIte, reduceCtorEq, seval]) (by simp only [enb, vcb, ↓evSo_some, ↓reduceIte, reduceCtorEq, seval])) ?_
  rintro ⟨i, r⟩ ⟨hi, hr, he⟩
  simp only at hi hr he
  have e1 : IntKind.i64.wrap ((i : Int) - 1) = (i : Int) - 1 := wI (by omega)
  have e2 : IntKind.i64.wrap (((i : Int) - 1).tdiv 2) = (((i - 1) / 2 : Nat) : Int) := by
    cases i with
    | zero => decide
    | succ n =>
      have : ((n + 1 : Nat) : Int) - 1 = (n : Int) := by omega
      rw [this, show (2 : Int) = ((2 : Nat) : Int) from rfl, tdiv_nat, Nat.add_sub_cancel, wI (by omega)]
  have hl2 : ¬ ((2 : Int) = 0) := by decide
  by_cases h0 : i = 0
  · have hu : upL default lessP i r = r := by rw [upL, dif_pos h0]
    have h1 : ((((i - 1) / 2 : Nat) : Int) == (i : Int)) = true := by rw [beq_iff_eq]; omega
    rw [hu] at he
    simp only [vH, e1, e2, h1, hl2, vcb, ↓evSo_some, ↓reduceIte, reduceCtorEq, seval]
    refine TR.gkeep (gc := false) [] (.d (.bool false)) rfl (fun h => by cases h) ?_
    simp only [vcb, ↓evSo_some, ↓reduceIte, reduceCtorEq, seval]
    refine RetK.mk' _ (Wk.refl _ _) (by simp only [rs55, rsb, vcb, ↓evSo_some, ↓reduceIte, reduceCtorEq, seval]) (by simp only [rs55, rsb, vcb, ↓evSo_some, ↓reduceIte, reduceCtorEq, seval, enb, vcb, ↓evSo_some, ↓reduceIte, reduceCtorEq, seval]) ?_
    simp only [he, enb, vcb, ↓evSo_some, ↓reduceIte, reduceCtorEq, seval]
  · have h1 : ((((i - 1) / 2 : Nat) : Int) == (i : Int)) = false := by
      rw [beq_eq_false_iff_ne]; omega
    simp only [vH, e1, e2, h1, hl2, vcb, ↓evSo_some, ↓reduceIte, reduceCtorEq, seval]
    refine TR.gkeep (gc := true) [1, 2] (.d (.bool (lessP (r.getD i default) (r.getD ((i - 1) / 2) default)))) rfl (fun _ => valid_ivk1 hP rfl mLess uPl zPl aPl (fun _ => rfl) rfl (by decide) (sLess r i ((i - 1) / 2) hi (by omega)) (fun _ => rfl) ⟨fun _ => rfl, fun _ => rfl, trivial⟩ rfl) ?_
    simp only [vcb, ↓evSo_some, ↓reduceIte, reduceCtorEq, seval]
    refine ⟨fun h => ?_, fun h => ?_⟩
    · have hu : upL default lessP i r = r := by rw [upL, dif_neg h0, if_neg (by simpa using h)]
      rw [hu] at he
      refine RetK.mk' _ (Wk.refl _ _) (by simp only [rs55, rsb, vcb, ↓evSo_some, ↓reduceIte, reduceCtorEq, seval]) (by simp only [rs55, rsb, vcb, ↓evSo_some, ↓reduceIte, reduceCtorEq, seval, enb, vcb, ↓evSo_some, ↓reduceIte, reduceCtorEq, seval]) ?_
      simp only [he, enb, vcb, ↓evSo_some, ↓reduceIte, reduceCtorEq, seval]
    · have hu : upL default lessP i r = upL default lessP ((i - 1) / 2) (swp default r ((i - 1) / 2) i) := by
        rw [upL, dif_neg h0, if_pos (by simpa using h)]
      rw [hu] at he
      refine TR.ivl hP [(2, rowP r)] [(2, rowP (swp default r ((i - 1) / 2) i))] _ [] rfl mSwap uPl zPl aPl (fun _ => rfl) rfl (by decide) (sSwap r ((i - 1) / 2) i (by omega) hi) trivial (by repeat' first | exact trivial | (intro _; assumption) | apply And.intro) (hin1 rfl) (by simp [keysO]) (by simp) ?_
      simp only [vcb, ↓evSo_some, ↓reduceIte, reduceCtorEq, seval]
      exact lopK.on ((i - 1) / 2, swp default r ((i - 1) / 2) i) ⟨by rw [swp_len]; omega, by rw [swp_len]; exact hr, he⟩ (by simp only; omega) (Wk.of _ hfn rfl (by simp only [vH, enb, vcb, ↓evSo_some, ↓reduceIte, reduceCtorEq, seval]) (by simp only [enb, vcb, ↓evSo_some, ↓reduceIte, reduceCtorEq, seval]))
set_option maxHeartbeats 2000000 in
theorem sHDn (l : List Pl) (i0 n : Nat) (hn : n ≤ l.length) (hl : l.length ≤ 1000000) (hi0 : i0 < l.length) :
    Ctr Try.prog 56 [vH, .d (.int .i64 i0), .d (.int .i64 n)] [(1, .fix [.osl 2]), (2, rowP l)] .un [(1, .fix [.osl 2]), (2, rowP (downL default lessP i0 n l))] [] := by
  refine ctr_own Try.func56 ok56 rfl cc56 cr56 Try.ntmps56 (by simp [vH]) rfl ?_
  intro c hP hfn
  simp only [kc56, namesL, V.names, ownNames, vH, vcb, ↓evSo_some, ↓reduceIte, reduceCtorEq, seval]
  refine vcC.loop (X := Nat × List Pl) (fun x => ⟨[(0, vH), (1, .d (.int .i64 i0)), (2, .d (.int .i64 n)), (7, .d (.int .i64 x.1))], [(1, .fix [.osl 2]), (2, rowP x.2)], [1, 2]⟩)
    (fun x => x.1 < x.2.length ∧ x.2.length = l.length ∧ downL default lessP i0 n l = downL default lessP x.1 n x.2) (fun x => l.length - x.1) (i0, l) ⟨hi0, rfl, rfl⟩ (Wk.of _ hfn rfl (by simp only [vH, enb, vcb, ↓evSo_some, ↓reduceIte, reduceCtorEq, seval]) (by simp only [enb, vcb, ↓evSo_some, ↓reduceIte, reduceCtorEq, seval])) ?_
  rintro ⟨i, r⟩ ⟨hi, hr, he⟩
  simp only at hi hr he
  have e1 : IntKind.i64.wrap (2 * (i : Int)) = 2 * (i : Int) := wI (by omega)
  have e2 : IntKind.i64.wrap (2 * (i : Int) + 1) = ((2 * i + 1 : Nat) : Int) := by rw [wI (by omega)]; omega
  have e3 : IntKind.i64.wrap (((2 * i + 1 : Nat) : Int) + 1) = ((2 * i + 2 : Nat) : Int) := by rw [wI (by omega)]; omega
  have hB : decide (((2 * i + 1 : Nat) : Int) < 0) = false := by rw [decide_eq_false_iff_not]; omega
  by_cases hlt : 2 * i + 1 < n
  · have hA : decide (((2 * i + 1 : Nat) : Int) ≥ (n : Int)) = false := by rw [decide_eq_false_iff_not]; omega
    by_cases h2 : 2 * i + 2 < n
    · have hC : decide (((2 * i + 2 : Nat) : Int) < (n : Int)) = true := by rw [decide_eq_true_eq]; omega
      simp only [vH, e1, e2, e3, hA, hB, hC, vcb, ↓evSo_some, ↓reduceIte, reduceCtorEq, seval]
      refine TR.gkeep (gc := true) [1, 2] (.d (.bool (lessP (r.getD (2 * i + 2) default) (r.getD (2 * i + 1) default)))) rfl (fun _ => valid_ivk1 hP rfl mLess uPl zPl aPl (fun _ => rfl) rfl (by decide) (sLess r (2 * i + 2) (2 * i + 1) (by omega) (by omega)) (fun _ => rfl) ⟨fun _ => rfl, fun _ => rfl, trivial⟩ rfl) ?_
      simp only [vcb, ↓evSo_some, ↓reduceIte, reduceCtorEq, seval]
      refine ⟨fun h => ?_, fun h => ?_⟩
      · have hk : kidL default lessP i n r = 2 * i + 2 := by rw [kidL, if_pos ⟨h2, h⟩]
        refine TR.keep [1, 2] (.d (.bool (lessP (r.getD (2 * i + 2) default) (r.getD i default)))) (valid_ivk1 hP rfl mLess uPl zPl aPl (fun _ => rfl) rfl (by decide) (sLess r (2 * i + 2) i (by omega) (by omega)) trivial (by repeat' first | exact trivial | (intro _; assumption) | apply And.intro) rfl) ?_
        simp only [vcb, ↓evSo_some, ↓reduceIte, reduceCtorEq, seval]
        refine ⟨fun h => ?_, fun h => ?_⟩
        · have hu : downL default lessP i n r = r := by rw [downL, dif_pos hlt, hk, if_neg (by simpa using h)]
          rw [hu] at he
          refine RetK.mk _ (Wk.refl _ _) (by simp only [rs56, rsb, vcb, ↓evSo_some, ↓reduceIte, reduceCtorEq, seval]) (VLe.un _) ?_
          simp only [he, enb, vcb, ↓evSo_some, ↓reduceIte, reduceCtorEq, seval]
        · have hu : downL default lessP i n r = downL default lessP (2 * i + 2) n (swp default r i (2 * i + 2)) := by
            rw [downL, dif_pos hlt, hk, if_pos (by simpa using h)]
          rw [hu] at he
          refine TR.ivl hP [(2, rowP r)] [(2, rowP (swp default r i (2 * i + 2)))] _ [] rfl mSwap uPl zPl aPl (fun _ => rfl) rfl (by decide) (sSwap r i (2 * i + 2) (by omega) (by omega)) trivial (by repeat' first | exact trivial | (intro _; assumption) | apply And.intro) (hin1 rfl) (by simp [keysO]) (by simp) ?_
          simp only [vcb, ↓evSo_some, ↓reduceIte, reduceCtorEq, seval]
          exact lopK.on (2 * i + 2, swp default r i (2 * i + 2)) ⟨by rw [swp_len]; omega, by rw [swp_len]; exact hr, he⟩ (by simp only; omega) (Wk.of _ hfn rfl (by simp only [vH, enb, vcb, ↓evSo_some, ↓reduceIte, reduceCtorEq, seval]) (by simp only [enb, vcb, ↓evSo_some, ↓reduceIte, reduceCtorEq, seval]))
      · have hk : kidL default lessP i n r = 2 * i + 1 := by rw [kidL, if_neg (fun g => by rw [h] at g; exact absurd g.2 (by simp))]
        refine TR.keep [1, 2] (.d (.bool (lessP (r.getD (2 * i + 1) default) (r.getD i default)))) (valid_ivk1 hP rfl mLess uPl zPl aPl (fun _ => rfl) rfl (by decide) (sLess r (2 * i + 1) i (by omega) (by omega)) trivial (by repeat' first | exact trivial | (intro _; assumption) | apply And.intro) rfl) ?_
        simp only [vcb, ↓evSo_some, ↓reduceIte, reduceCtorEq, seval]
        refine ⟨fun h => ?_, fun h => ?_⟩
        · have hu : downL default lessP i n r = r := by rw [downL, dif_pos hlt, hk, if_neg (by simpa using h)]
          rw [hu] at he
          refine RetK.mk _ (Wk.refl _ _) (by simp only [rs56, rsb, vcb, ↓evSo_some, ↓reduceIte, reduceCtorEq, seval]) (VLe.un _) ?_
          simp only [he, enb, vcb, ↓evSo_some, ↓reduceIte, reduceCtorEq, seval]
        · have hu : downL default lessP i n r = downL default lessP (2 * i + 1) n (swp default r i (2 * i + 1)) := by
            rw [downL, dif_pos hlt, hk, if_pos (by simpa using h)]
          rw [hu] at he
          refine TR.ivl hP [(2, rowP r)] [(2, rowP (swp default r i (2 * i + 1)))] _ [] rfl mSwap uPl zPl aPl (fun _ => rfl) rfl (by decide) (sSwap r i (2 * i + 1) (by omega) (by omega)) trivial (by repeat' first | exact trivial | (intro _; assumption) | apply And.intro) (hin1 rfl) (by simp [keysO]) (by simp) ?_
          simp only [vcb, ↓evSo_some, ↓reduceIte, reduceCtorEq, seval]
          exact lopK.on (2 * i + 1, swp default r i (2 * i + 1)) ⟨by rw [swp_len]; omega, by rw [swp_len]; exact hr, he⟩ (by simp only; omega) (Wk.of _ hfn rfl (by simp only [vH, enb, vcb, ↓evSo_some, ↓reduceIte, reduceCtorEq, seval]) (by simp only [enb, vcb, ↓evSo_some, ↓reduceIte, reduceCtorEq, seval]))
    · have hC : decide (((2 * i + 2 : Nat) : Int) < (n : Int)) = false := by rw [decide_eq_false_iff_not]; omega
      have hk : kidL default lessP i n r = 2 * i + 1 := by rw [kidL, if_neg (fun g => h2 g.1)]
      simp only [vH, e1, e2, e3, hA, hB, hC, vcb, ↓evSo_some, ↓reduceIte, reduceCtorEq, seval]
      refine TR.gkeep (gc := false) [] (.d (.bool false)) rfl (fun h => by cases h) ?_
      simp only [vcb, ↓evSo_some, ↓reduceIte, reduceCtorEq, seval]
      refine TR.keep [1, 2] (.d (.bool (lessP (r.getD (2 * i + 1) default) (r.getD i default)))) (valid_ivk1 hP rfl mLess uPl zPl aPl (fun _ => rfl) rfl (by decide) (sLess r (2 * i + 1) i (by omega) (by omega)) trivial (by repeat' first | exact trivial | (intro _; assumption) | apply And.intro) rfl) ?_
      simp only [vcb, ↓evSo_some, ↓reduceIte, reduceCtorEq, seval]
      refine ⟨fun h => ?_, fun h => ?_⟩
      · have hu : downL default lessP i n r = r := by rw [downL, dif_pos hlt, hk, if_neg (by simpa using h)]
        rw [hu] at he
        refine RetK.mk _ (Wk.refl _ _) (by simp only [rs56, rsb, vcb, ↓evSo_some, ↓reduceIte, reduceCtorEq, seval]) (VLe.un _) ?_
        simp only [he, enb, vcb, ↓evSo_some, ↓reduceIte, reduceCtorEq, seval]
      · have hu : downL default lessP i n r = downL default lessP (2 * i + 1) n (swp default r i (2 * i + 1)) := by
          rw [downL, dif_pos hlt, hk, if_pos (by simpa using h)]
        rw [hu] at he
        refine TR.ivl hP [(2, rowP r)] [(2, rowP (swp default r i (2 * i + 1)))] _ [] rfl mSwap uPl zPl aPl (fun _ => rfl) rfl (by decide) (sSwap r i (2 * i + 1) (by omega) (by omega)) trivial (by repeat' first | exact trivial | (intro _; assumption) | apply And.intro) (hin1 rfl) (by simp [keysO]) (by simp) ?_
        simp only [vcb, ↓evSo_some, ↓reduceIte, reduceCtorEq, seval]
        exact lopK.on (2 * i + 1, swp default r i (2 * i + 1)) ⟨by rw [swp_len]; omega, by rw [swp_len]; exact hr, he⟩ (by simp only; omega) (Wk.of _ hfn rfl (by simp only [vH, enb, vcb, ↓evSo_some, ↓reduceIte, reduceCtorEq, seval]) (by simp only [enb, vcb, ↓evSo_some, ↓reduceIte, reduceCtorEq, seval]))
  · have hA : decide (((2 * i + 1 : Nat) : Int) ≥ (n : Int)) = true := by rw [decide_eq_true_eq]; omega
    have hu : downL default lessP i n r = r := by rw [downL, dif_neg hlt]
    rw [hu] at he
    simp only [vH, e1, e2, e3, hA, hB, vcb, ↓evSo_some, ↓reduceIte, reduceCtorEq, seval]
    refine RetK.mk _ (Wk.refl _ _) (by simp only [rs56, rsb, vcb, ↓evSo_some, ↓reduceIte, reduceCtorEq, seval]) (VLe.un _) ?_
    simp only [he, enb, vcb, ↓evSo_some, ↓reduceIte, reduceCtorEq, seval]
theorem sLen3 (l : List Pl) : Ctr Try.prog 31 [.osl 3] [(3, rowP l)] (.d (.int .i64 l.length)) [(3, rowP l)] [] := by
  have := (sLen l).sw 2 3
  simpa only [rowP, vcb, ↓evSo_some, ↓reduceIte, reduceCtorEq, seval] using this
theorem sUp3 (l : List Pl) (j : Nat) (hj : j < l.length) (hl : l.length ≤ 1000000) :
    Ctr Try.prog 55 [vH, .d (.int .i64 j)] [(1, .fix [.osl 3]), (3, rowP l)] (.tup []) [(1, .fix [.osl 3]), (3, rowP (upL default lessP j l))] [] := by
  have := (sUp l j hj hl).sw 2 3
  simpa only [rowP, vH, vcb, ↓evSo_some, ↓reduceIte, reduceCtorEq, seval] using this
set_option maxHeartbeats 1000000 in
theorem sHPush (l : List Pl) (x : Pl) (hl : l.length ≤ 100000) :
    Ctr Try.prog 30 [vH, .ifc 61 (vP x)] [(1, .fix [.osl 2]), (2, rowP l)] (.tup []) [(1, .fix [.osl 3]), (3, rowP (pushL default lessP l x))] [3] := by
  refine ctr_own Try.func30 ok30 rfl cc30 cr30 Try.ntmps30 (by simp [vH, vP]) rfl ?_
  intro c hP hfn
  have e1 : IntKind.i64.wrap (((l ++ [x]).length : Int) - 1) = (l.length : Int) := by rw [wI (by simp; omega)]; simp
  simp only [kc30, namesL, V.names, ownNames, vH, vP, vcb, ↓evSo_some, ↓reduceIte, reduceCtorEq, seval]
  refine TR.iv hP [(1, .fix [.osl 2]), (2, rowP l)] [(1, .fix [.osl 3]), (3, rowP (l ++ [x]))] _ [3] rfl mPush uPl (sPush l x (by omega)) trivial (by repeat' first | exact trivial | (intro _; assumption) | apply And.intro) (hin2 rfl rfl) (by simp [keysO]) (by simp [rowP, ownNames]) ?_
  simp only [vcb, ↓evSo_some, ↓reduceIte, reduceCtorEq, seval]
  refine TR.keep [1, 3] (.d (.int .i64 (l ++ [x]).length)) (valid_ivk1 hP rfl mLen uPl zPl aPl (fun _ => rfl) rfl (by decide) (sLen3 (l ++ [x])) trivial (by repeat' first | exact trivial | (intro _; assumption) | apply And.intro) rfl) ?_
  simp only [e1, vcb, ↓evSo_some, ↓reduceIte, reduceCtorEq, seval]
  refine TR.call [(1, .fix [.osl 3]), (3, rowP (l ++ [x]))] [(1, .fix [.osl 3]), (3, rowP (upL default lessP l.length (l ++ [x])))] _ [] (by rw [hP]; exact sUp3 (l ++ [x]) l.length (by simp) (by simp; omega)) (by repeat' first | exact trivial | (intro _; assumption) | apply And.intro) (hin2 rfl rfl) (by simp [keysO]) (by simp) ?_
  simp only [vcb, ↓evSo_some, ↓reduceIte, reduceCtorEq, seval]
  refine RetK.mk' _ (Wk.refl _ _) (by simp only [rs30, rsb, vcb, ↓evSo_some, ↓reduceIte, reduceCtorEq, seval]) (by simp only [rs30, rsb, vcb, ↓evSo_some, ↓reduceIte, reduceCtorEq, seval, enb, vcb, ↓evSo_some, ↓reduceIte, reduceCtorEq, seval]) ?_
  simp only [pushL, enb, vcb, ↓evSo_some, ↓reduceIte, reduceCtorEq, seval]
set_option maxHeartbeats 1000000 in
theorem sHPop (l : List Pl) (h0 : 0 < l.length) (hl : l.length ≤ 100000) :
    Ctr Try.prog 32 [vH] [(1, .fix [.osl 2]), (2, rowP l)] (.ifc 61 (vP ((popL default lessP l).getD (l.length - 1) default))) [(1, .fix [.osl 3]), (3, rowP ((popL default lessP l).take (l.length - 1)))] [3] := by
  refine ctr_own Try.func32 ok32 rfl cc32 cr32 Try.ntmps32 (by simp [vH]) rfl ?_
  intro c hP hfn
  have e1 : IntKind.i64.wrap ((l.length : Int) - 1) = ((l.length - 1 : Nat) : Int) := by rw [wI (by omega)]; omega
  have hpl : (popL default lessP l).length = l.length := by rw [popL, downL_len, swp_len]
  have cS := sSwap l 0 (l.length - 1) h0 (by omega)
  have cD := sHDn (swp default l 0 (l.length - 1)) 0 (l.length - 1) (by rw [swp_len]; omega) (by rw [swp_len]; omega) (by rw [swp_len]; omega)
  have cP := sPop (popL default lessP l) (by omega) (by omega)
  rw [hpl] at cP
  simp only [vH] at cD
  simp only [Int.natCast_zero] at cS cD
  simp only [kc32, namesL, V.names, ownNames, vH, vP, vcb, ↓evSo_some, ↓reduceIte, reduceCtorEq, seval]
  refine TR.keep [1, 2] (.d (.int .i64 l.length)) (valid_ivk1 hP rfl mLen uPl zPl aPl (fun _ => rfl) rfl (by decide) (sLen l) trivial (by repeat' first | exact trivial | (intro _; assumption) | apply And.intro) rfl) ?_
  simp only [e1, vcb, ↓evSo_some, ↓reduceIte, reduceCtorEq, seval]
  refine TR.ivl hP [(2, rowP l)] [(2, rowP (swp default l 0 (l.length - 1)))] _ [] rfl mSwap uPl zPl aPl (fun _ => rfl) rfl (by decide) cS trivial (by repeat' first | exact trivial | (intro _; assumption) | apply And.intro) (hin1 rfl) (by simp [keysO]) (by simp) ?_
  simp only [vcb, ↓evSo_some, ↓reduceIte, reduceCtorEq, seval]
  refine TR.call [(1, .fix [.osl 2]), (2, rowP (swp default l 0 (l.length - 1)))] [(1, .fix [.osl 2]), (2, rowP (popL default lessP l))] _ [] (by rw [hP]; exact cD) (by repeat' first | exact trivial | (intro _; assumption) | apply And.intro) (hin2 rfl rfl) (by simp [keysO]) (by simp) ?_
  simp only [vcb, ↓evSo_some, ↓reduceIte, reduceCtorEq, seval]
  refine TR.iv hP [(1, .fix [.osl 2]), (2, rowP (popL default lessP l))] [(1, .fix [.osl 3]), (3, rowP ((popL default lessP l).take (l.length - 1)))] _ [3] rfl mPop uPl cP trivial (by repeat' first | exact trivial | (intro _; assumption) | apply And.intro) (hin2 rfl rfl) (by simp [keysO]) (by simp [rowP, ownNames]) ?_
  simp only [vcb, ↓evSo_some, ↓reduceIte, reduceCtorEq, seval]
  refine RetK.mk _ (Wk.refl _ _) (by simp only [rs32, rsb, vcb, ↓evSo_some, ↓reduceIte, reduceCtorEq, seval]) (by simp only [rs32, vP, rsb, vcb, ↓evSo_some, ↓reduceIte, reduceCtorEq, seval, enb, vcb, ↓evSo_some, ↓reduceIte, reduceCtorEq, seval]) ?_
  simp only [enb, vcb, ↓evSo_some, ↓reduceIte, reduceCtorEq, seval]
end Go.Proofs.Ytgpckelpmincmaa
end
section
set_option linter.unusedSimpArgs false
set_option linter.unusedVariables false
namespace Go.Proofs.Ytgpckelpmincmaa
set_option linter.unusedSimpArgs false
set_option linter.unusedVariables false
open Go.Bx
set_option maxRecDepth 10000
def plT (t : Tr) (i : Nat) : List Pl := if t.kind = 1 then [⟨t.kind, 0, i⟩] else if t.kind = 2 ∨ t.kind = 3 then [⟨t.kind, t.att, i⟩] else []
def plsT : Nat → List Tr → List Pl
  | _, [] => []
  | i, t :: r => plT t i ++ plsT (i + 1) r
def orderT (ts : List Tr) : List Int := (drainL default lessP (plsT 0 ts).length ((plsT 0 ts).foldl (pushL default lessP) [])).map (·.i)
theorem push_len (l : List Pl) (x : Pl) : (pushL default lessP l x).length = l.length + 1 := by rw [pushL, upL_len]; simp
theorem pushes_len (xs : List Pl) : ∀ l : List Pl, (xs.foldl (pushL default lessP) l).length = l.length + xs.length := by
  induction xs with
  | nil => intro l; simp
  | cons x xs ih => intro l; rw [List.foldl_cons, ih, push_len, List.length_cons]; omega
theorem pop_len (l : List Pl) : (popL default lessP l).length = l.length := by rw [popL, downL_len, swp_len]
theorem plT_len (t : Tr) (i : Nat) : (plT t i).length ≤ 1 := by unfold plT; split <;> (try split) <;> simp
theorem plsT_len : ∀ (ts : List Tr) (i : Nat), (plsT i ts).length ≤ ts.length
  | [], _ => by simp [plsT]
  | t :: r, i => by
    have h1 := plT_len t i
    have h2 := plsT_len r (i + 1)
    simp only [plsT, List.length_append, List.length_cons]; omega
def vH9 : V := .ifc 57 (.own 11 0)
theorem sHPush9 (l : List Pl) (x : Pl) (hl : l.length ≤ 100000) :
    Ctr Try.prog 30 [vH9, .ifc 61 (vP x)] [(11, .fix [.osl 900]), (900, rowP l)] (.tup []) [(11, .fix [.osl 901]), (901, rowP (pushL default lessP l x))] [901] := by
  have := (((sHPush l x hl).sw 1 11).sw 2 900).sw 3 901
  simpa only [rowP, vH, vH9, vP, vcb, ↓evSo_some, ↓reduceIte, reduceCtorEq, seval] using this
theorem sHPop9 (l : List Pl) (h0 : 0 < l.length) (hl : l.length ≤ 100000) :
    Ctr Try.prog 32 [vH9] [(11, .fix [.osl 900]), (900, rowP l)] (.ifc 61 (vP ((popL default lessP l).getD (l.length - 1) default))) [(11, .fix [.osl 901]), (901, rowP ((popL default lessP l).take (l.length - 1)))] [901] := by
  have := (((sHPop l h0 hl).sw 1 11).sw 2 900).sw 3 901
  simpa only [rowP, vH, vH9, vP, vcb, ↓evSo_some, ↓reduceIte, reduceCtorEq, seval] using this
theorem sLen9 (l : List Pl) : Ctr Try.prog 31 [.osl 900] [(900, rowP l)] (.d (.int .i64 l.length)) [(900, rowP l)] [] := by
  have := (sLen l).sw 2 900
  simpa only [rowP, vcb, ↓evSo_some, ↓reduceIte, reduceCtorEq, seval] using this
theorem drain_step {l : List Pl} {n : Nat} (_h : l.length = n + 1) : drainL default lessP (n + 1) l = (popL default lessP l).getD (l.length - 1) default :: drainL default lessP n ((popL default lessP l).take (l.length - 1)) := rfl
set_option maxHeartbeats 2000000 in
theorem sOrder (ts : List Tr) (hl : ts.length ≤ 1000) : Ctr Try.prog 15 [.d (slT ts)] [] (.d (slK .i64 (orderT ts))) [] [] := by
  refine ctr_pure Try.func15 ok15 rfl cc15 cr15 Try.ntmps15 (by simp) rfl rfl ?_; intro c hP hfn; simp only [kc15, slT, vcb, ↓evSo_some, ↓reduceIte, reduceCtorEq, seval]
  refine vcC.loop (X := Nat × List Pl) (fun x => ⟨[(3, .own 11 0), (12, .d (slT ts)), (13, .d (.int .i64 ts.length)), (14, .d (.int .i64 x.1))], [(11, .fix [.osl 900]), (900, rowP x.2)], [11, 900]⟩)
    (fun x => x.1 ≤ ts.length ∧ x.2.length ≤ x.1 ∧ (plsT 0 ts).foldl (pushL default lessP) [] = (plsT x.1 (ts.drop x.1)).foldl (pushL default lessP) x.2) (fun x => ts.length - x.1) (0, []) ⟨Nat.zero_le _, Nat.zero_le _, rfl⟩
    ((Wk.row0F 11 0 900 61 3 (fun _ => []) rfl rfl (by simp)).trans (Wk.of _ hfn rfl (by simp only [slT, enb, vcb, ↓evSo_some, ↓reduceIte, reduceCtorEq, seval]) (by simp only [rowP, enb, vcb, ↓evSo_some, ↓reduceIte, reduceCtorEq, seval]; exact OLe.row rfl (fun i hi => absurd hi (Nat.not_lt_zero i))))) ?_
  rintro ⟨k, hp⟩ ⟨hk, hh, he⟩
  simp only at hk hh he
  simp only [slT, vcb, ↓evSo_some, ↓reduceIte, reduceCtorEq, seval]
  refine ⟨fun h1 => ?_, fun h1 => ?_⟩
  · have hlt : k < ts.length := by have := of_decide_eq_true h1; omega
    obtain ⟨t, hd, hg, -, -⟩ := drop_at hlt
    rw [hd, plsT, List.foldl_append] at he
    simp only [hg, vcb, ↓evSo_some, ↓reduceIte, reduceCtorEq, seval]
    repeat' first
        | refine And.intro (fun h => ?_) (fun h => ?_)
        | refine And.intro (by first | omega | (simp only [maxLen, decide_eq_true_eq, decide_eq_false_iff_not] at *; omega)) ?_
        | (refine TR.aslO rfl rfl rfl rfl trivial (Nat.le_of_ble_eq_true rfl) ?_
           try simp only [hg, vcb, ↓evSo_some, ↓reduceIte, reduceCtorEq, seval])
        | refine And.intro trivial ?_
        | refine And.intro rfl ?_
        | fail
    · have ep : plT t k = [⟨t.kind, 0, k⟩] := by
        have h9 : t.kind = 1 := by simpa using h
        rw [plT, if_pos h9]
      rw [ep] at he
      have cc := sHPush9 hp ⟨t.kind, 0, k⟩ (by omega)
      simp only [vH9, vP] at cc
      refine TR.call [(11, .fix [.osl 900]), (900, rowP hp)] [(11, .fix [.osl 901]), (901, rowP (pushL default lessP hp ⟨t.kind, 0, k⟩))] _ [901] (by rw [hP]; exact cc) (by repeat' first | exact trivial | (intro _; assumption) | apply And.intro) (hin2 rfl rfl) (by simp [keysO]) (by simp) ?_
      simp only [vcb, ↓evSo_some, ↓reduceIte, reduceCtorEq, seval]
      exact lopK.on (k + 1, pushL default lessP hp ⟨t.kind, 0, k⟩) ⟨hlt, by simp only [push_len]; omega, he⟩ (by simp only; omega) ((Wk.sw 901 900 _ hfn (by simp) (by simp)).trans (Wk.of _ hfn rfl (by simp only [slT, enb, vcb, ↓evSo_some, ↓reduceIte, reduceCtorEq, seval]; exact wS (by omega)) (by simp only [rowP, enb, vcb, ↓evSo_some, ↓reduceIte, reduceCtorEq, seval])))
    · have ep : plT t k = [⟨t.kind, t.att, k⟩] := by
        rename_i h8 _
        have h9 : ¬ t.kind = 1 := by simpa using h8
        have h7 : t.kind = 2 := by simpa using h
        rw [plT, if_neg h9, if_pos (.inl h7)]
      rw [ep] at he
      have cc := sHPush9 hp ⟨t.kind, t.att, k⟩ (by omega)
      simp only [vH9, vP] at cc
      refine TR.call [(11, .fix [.osl 900]), (900, rowP hp)] [(11, .fix [.osl 901]), (901, rowP (pushL default lessP hp ⟨t.kind, t.att, k⟩))] _ [901] (by rw [hP]; exact cc) (by repeat' first | exact trivial | (intro _; assumption) | apply And.intro) (hin2 rfl rfl) (by simp [keysO]) (by simp) ?_
      simp only [vcb, ↓evSo_some, ↓reduceIte, reduceCtorEq, seval]
      exact lopK.on (k + 1, pushL default lessP hp ⟨t.kind, t.att, k⟩) ⟨hlt, by simp only [push_len]; omega, he⟩ (by simp only; omega) ((Wk.sw 901 900 _ hfn (by simp) (by simp)).trans (Wk.of _ hfn rfl (by simp only [slT, enb, vcb, ↓evSo_some, ↓reduceIte, reduceCtorEq, seval]; exact wS (by omega)) (by simp only [rowP, enb, vcb, ↓evSo_some, ↓reduceIte, reduceCtorEq, seval])))
    · rename_i h7
      rw [h7] at h; cases h
    · have ep : plT t k = [⟨t.kind, t.att, k⟩] := by
        rename_i h8 h7
        have h9 : ¬ t.kind = 1 := by simpa using h8
        have h7 : t.kind = 3 := by simpa using h
        rw [plT, if_neg h9, if_pos (.inr h7)]
      rw [ep] at he
      have cc := sHPush9 hp ⟨t.kind, t.att, k⟩ (by omega)
      simp only [vH9, vP] at cc
      refine TR.call [(11, .fix [.osl 900]), (900, rowP hp)] [(11, .fix [.osl 901]), (901, rowP (pushL default lessP hp ⟨t.kind, t.att, k⟩))] _ [901] (by rw [hP]; exact cc) (by repeat' first | exact trivial | (intro _; assumption) | apply And.intro) (hin2 rfl rfl) (by simp [keysO]) (by simp) ?_
      simp only [vcb, ↓evSo_some, ↓reduceIte, reduceCtorEq, seval]
      exact lopK.on (k + 1, pushL default lessP hp ⟨t.kind, t.att, k⟩) ⟨hlt, by simp only [push_len]; omega, he⟩ (by simp only; omega) ((Wk.sw 901 900 _ hfn (by simp) (by simp)).trans (Wk.of _ hfn rfl (by simp only [slT, enb, vcb, ↓evSo_some, ↓reduceIte, reduceCtorEq, seval]; exact wS (by omega)) (by simp only [rowP, enb, vcb, ↓evSo_some, ↓reduceIte, reduceCtorEq, seval])))
    · rename_i h8 h7
      have ep : plT t k = [] := by
        have h9 : ¬ t.kind = 1 := by simpa using h8
        have h7 : ¬ t.kind = 2 := by simpa using h7
        have h6 : ¬ t.kind = 3 := by simpa using h
        rw [plT, if_neg h9, if_neg (by omega)]
      rw [ep] at he
      exact lopK.on (k + 1, hp) ⟨hlt, by simp only; omega, he⟩ (by simp only; omega) (Wk.of _ hfn rfl (by simp only [slT, enb, vcb, ↓evSo_some, ↓reduceIte, reduceCtorEq, seval]; exact wS (by omega)) (by simp only [rowP, enb, vcb, ↓evSo_some, ↓reduceIte, reduceCtorEq, seval]))
  · have hkl : k = ts.length := by have := of_decide_eq_false h1; omega
    rw [hkl, List.drop_length, plsT, List.foldl_nil] at he
    have hpl := pushes_len (plsT 0 ts) []
    rw [he] at hpl
    simp only [List.length_nil, Nat.zero_add] at hpl
    have ho : orderT ts = (drainL default lessP hp.length hp).map (·.i) := by rw [orderT, he, hpl]
    simp only [rowP, vcb, ↓evSo_some, ↓reduceIte, reduceCtorEq, seval]
    refine vcC.loop (X := List Int × List Pl) (fun x => ⟨[(3, .own 11 0), (7, .osl 1000)], [(11, .fix [.osl 900]), (900, rowP x.2), (1000, .row 3 1 x.1.length (fun i => [.int .i64 (x.1.getD i 0)]))], [11, 900, 1000]⟩)
      (fun x => x.1.length + x.2.length ≤ 1000 ∧ orderT ts = x.1 ++ (drainL default lessP x.2.length x.2).map (·.i)) (fun x => x.2.length) ([], hp) ⟨by simp only [List.length_nil]; omega, by simp only [List.nil_append]; exact ho⟩
      ((Wk.row0 (s := 7) (k := 1000) (e := 3) (sz := 1) (f' := fun _ => []) rfl rfl (by simp)).trans (Wk.of _ hfn rfl (by (simp only [enb, vcb, ↓evSo_some, ↓reduceIte, reduceCtorEq, seval]) <;> (first | exact wS (by omega) | (rw [List.length_append]; exact wS (by omega)) | assumption)) (by simp only [rowP, enb, vcb, ↓evSo_some, ↓reduceIte, reduceCtorEq, seval]; exact OLe.row rfl (fun i hi => absurd hi (Nat.not_lt_zero i))))) ?_
    rintro ⟨acc, r⟩ ⟨hr, hor⟩
    simp only at hr hor
    simp only [vcb, ↓evSo_some, ↓reduceIte, reduceCtorEq, seval]
    refine TR.keep [900] (.d (.int .i64 r.length)) (valid_keep (ins := [(900, rowP r)]) (valid_call (by rw [hP]; exact sLen9 r) (by repeat' first | exact trivial | (intro _; assumption) | apply And.intro) (hin1 rfl) (by simp [keysO])) (hin1 rfl) (by simp [keysO]) (by simp [keysO])) ?_
    simp only [vcb, ↓evSo_some, ↓reduceIte, reduceCtorEq, seval]
    refine ⟨fun g => ?_, fun g => ?_⟩
    · have h0 : 0 < r.length := by have := of_decide_eq_true g; omega
      have cc := sHPop9 r h0 (by omega)
      simp only [vH9, vP] at cc
      refine TR.call [(11, .fix [.osl 900]), (900, rowP r)] [(11, .fix [.osl 901]), (901, rowP ((popL default lessP r).take (r.length - 1)))] _ [901] (by rw [hP]; exact cc) (by repeat' first | exact trivial | (intro _; assumption) | apply And.intro) (hin2 rfl rfl) (by simp [keysO]) (by simp) ?_
      simp only [vcb, ↓evSo_some, ↓reduceIte, reduceCtorEq, seval]
      repeat' first
          | refine And.intro (fun h => ?_) (fun h => ?_)
          | refine And.intro (by first | omega | (simp only [maxLen, decide_eq_true_eq, decide_eq_false_iff_not] at *; omega)) ?_
          | (refine TR.aslO rfl rfl rfl rfl trivial (Nat.le_of_ble_eq_true rfl) ?_
             try simp only [vcb, ↓evSo_some, ↓reduceIte, reduceCtorEq, seval])
          | refine And.intro trivial ?_
          | refine And.intro rfl ?_
          | fail
      have hrl : ((popL default lessP r).take (r.length - 1)).length = r.length - 1 := by rw [List.length_take, pop_len]; omega
      have hst : drainL default lessP r.length r = (popL default lessP r).getD (r.length - 1) default :: drainL default lessP (r.length - 1) ((popL default lessP r).take (r.length - 1)) := by
        conv => lhs; rw [show r.length = (r.length - 1) + 1 by omega, drain_step (n := r.length - 1) (by omega)]
      rw [hst] at hor
      refine lopK.on (acc ++ [((popL default lessP r).getD (r.length - 1) default).i], (popL default lessP r).take (r.length - 1)) ⟨by simp only [hrl, List.length_append, List.length_singleton]; omega, ?_⟩ (by simp only [hrl]; omega)
        ((Wk.sw 901 900 _ hfn (by simp) (by simp)).trans ((Wk.sw 56 1000 _ hfn (by simp) (by simp)).trans (Wk.of _ hfn rfl (by simp only [enb, vcb, ↓evSo_some, ↓reduceIte, reduceCtorEq, seval]) ?_)))
      · rw [hor, hrl]; simp
      · simp only [rowP, enb, vcb, ↓evSo_some, ↓reduceIte, reduceCtorEq, seval]
        exact OLe.app1 (fun n : Int => [.int .i64 n]) (fun i hi => by simp [hi]) (by simp [litRow])
    · have h0 : r.length = 0 := by have := of_decide_eq_false g; omega
      have hn : r = [] := List.eq_nil_of_length_eq_zero h0
      rw [h0] at hor
      simp only [drainL, List.map_nil, List.append_nil] at hor
      refine RetK.mk _ ((Wk.of (b := ⟨[(2, .osl 1000)], [(1000, .row 3 1 acc.length (fun i => [.int .i64 (acc.getD i 0)]))], [1000]⟩) _ hfn rfl (by (simp only [enb, vcb, ↓evSo_some, ↓reduceIte, reduceCtorEq, seval]) <;> (first | exact wS (by omega) | (rw [List.length_append]; exact wS (by omega)) | assumption)) (by simp only [enb, vcb, ↓evSo_some, ↓reduceIte, reduceCtorEq, seval])).trans (Wk.pub 1000 rfl)) (by simp only [rs15, rsb, vcb, ↓evSo_some, ↓reduceIte, reduceCtorEq, seval]) ?_ trivial
      simp only [rs15, rsb, vcb, ↓evSo_some, ↓reduceIte, reduceCtorEq, seval]
      rw [hor]; exact VLe.refl _
end Go.Proofs.Ytgpckelpmincmaa
end
section
set_option linter.unusedSimpArgs false
set_option linter.unusedVariables false
namespace Go.Proofs.Ytgpckelpmincmaa
set_option linter.unusedSimpArgs false
set_option linter.unusedVariables false
open Go.Bx
set_option maxRecDepth 10000
theorem lessP_iff {a b : Pl} : lessP a b = true ↔ a.k < b.k ∨ (a.k = b.k ∧ (a.a < b.a ∨ (a.a = b.a ∧ a.i < b.i))) := by
  unfold lessP cmp3 cmpI
  rw [decide_eq_true_eq]
  repeat' split
  all_goals omega
theorem lessP_not {a b : Pl} : lessP a b = false ↔ ¬ (a.k < b.k ∨ (a.k = b.k ∧ (a.a < b.a ∨ (a.a = b.a ∧ a.i < b.i)))) := by
  rw [← lessP_iff, Bool.not_eq_true]
def SrtP (l : List Pl) : Prop := l.Pairwise (fun a b => lessP b a = false)
theorem sorted_pls (xs : List Pl) : SrtP (drainL default lessP xs.length (xs.foldl (pushL default lessP) [])) ∧ (drainL default lessP xs.length (xs.foldl (pushL default lessP) [])).Perm xs :=
  hsort_ok default lessP (fun a b c h1 h2 => by rw [lessP_not] at *; omega) (fun a b h => by rw [lessP_iff] at h; rw [lessP_not]; omega) (fun a => by rw [lessP_not]; omega) xs
theorem srt_unique {a b : List Pl} (ha : SrtP a) (hb : SrtP b) (h : a.Perm b) : a = b :=
  h.eq_of_pairwise (le := fun a b => lessP b a = false) (fun x y _ _ h1 h2 => by
    rw [lessP_not] at h1 h2
    obtain ⟨x1, x2, x3⟩ := x
    obtain ⟨y1, y2, y3⟩ := y
    simp only at h1 h2
    have e1 : x1 = y1 := by omega
    have e2 : x2 = y2 := by omega
    have e3 : x3 = y3 := by omega
    rw [e1, e2, e3]) ha hb
def ordP (ts : List Tr) : List Pl := drainL default lessP (plsT 0 ts).length ((plsT 0 ts).foldl (pushL default lessP) [])
theorem ordP_ok (ts : List Tr) : SrtP (ordP ts) ∧ (ordP ts).Perm (plsT 0 ts) := sorted_pls _
theorem orderT_eq (ts : List Tr) : orderT ts = (ordP ts).map (·.i) := rfl
theorem ordP_unique {ts : List Tr} {l : List Pl} (h1 : SrtP l) (h2 : l.Perm (plsT 0 ts)) : l = ordP ts := srt_unique h1 (ordP_ok ts).1 (h2.trans (ordP_ok ts).2.symm)
theorem plsT_app : ∀ (ts us : List Tr) (i : Nat), plsT i (ts ++ us) = plsT i ts ++ plsT (i + ts.length) us
  | [], us, i => by simp [plsT]
  | t :: ts, us, i => by
    simp only [List.cons_append, plsT, plsT_app ts us (i + 1), List.length_cons, List.append_assoc]
    rw [show i + 1 + ts.length = i + (ts.length + 1) by omega]
theorem plsT_mem {ts : List Tr} {i : Nat} {p : Pl} (h : p ∈ plsT i ts) : ∃ j t, ts[j]? = some t ∧ p ∈ plT t (i + j) := by
  induction ts generalizing i with
  | nil => simp [plsT] at h
  | cons t r ih =>
    simp only [plsT, List.mem_append] at h
    rcases h with h | h
    · exact ⟨0, t, rfl, h⟩
    · obtain ⟨j, u, h1, h2⟩ := ih h
      exact ⟨j + 1, u, by simpa using h1, by rw [show i + (j + 1) = i + 1 + j by omega]; exact h2⟩
theorem plT_mem {t : Tr} {i : Nat} {p : Pl} (h : p ∈ plT t i) : p.k = t.kind ∧ p.i = i ∧ (t.kind = 1 ∧ p.a = 0 ∨ (t.kind = 2 ∨ t.kind = 3) ∧ p.a = t.att) := by
  unfold plT at h
  split at h
  · rename_i h1; simp at h; subst h; exact ⟨rfl, rfl, .inl ⟨h1, rfl⟩⟩
  · split at h
    · rename_i h1; simp at h; subst h; exact ⟨rfl, rfl, .inr ⟨h1, rfl⟩⟩
    · simp at h
def plA (ts : List Tr) (kd : Int) (i : Int) : Pl := ⟨kd, if kd = 1 then 0 else (ts.getD i.toNat default).att, i⟩
theorem posK_after (ts : List Tr) (kd : Int) (out : List Int) (t : Tr) : ∀ (n j : Nat), posK ts kd out t n ≤ j → j < n → kd ≠ 1 ∧ t.att < (ts.getD (out.getD j 0).toNat default).att
  | 0, _, _, h => by omega
  | n + 1, j, h1, h2 => by
    rw [posK] at h1
    split at h1
    · omega
    · rename_i hk
      split at h1
      · omega
      · rename_i ha
        by_cases e : j = n
        · subst e; exact ⟨hk, by omega⟩
        · exact posK_after ts kd out t n j h1 (by omega)
theorem posK_one (ts : List Tr) (out : List Int) (t : Tr) : ∀ n, posK ts 1 out t n = n
  | 0 => rfl
  | n + 1 => by rw [posK, if_pos rfl]
theorem posK_at (ts : List Tr) (kd : Int) (out : List Int) (t : Tr) (hk : kd ≠ 1) : ∀ (n : Nat), 0 < posK ts kd out t n → (ts.getD (out.getD (posK ts kd out t n - 1) 0).toNat default).att ≤ t.att
  | 0, h => by simp [posK] at h
  | n + 1, h => by
    rw [posK, if_neg hk] at h ⊢
    split
    · rename_i ha; exact ha
    · rename_i ha
      rw [if_neg ha] at h
      exact posK_at ts kd out t hk n h
structure KiP (ts : List Tr) (kd : Int) (k : Nat) (out : List Int) : Prop where
  mem : ∀ e, e ∈ out → 0 ≤ e ∧ e < k
  perm : (out.map (plA ts kd)).Perm ((plsT 0 (ts.take k)).filter (fun p => p.k == kd))
  srt : SrtP (out.map (plA ts kd))
theorem pl_filter {ts : List Tr} {kd : Int} (hkd : kd = 1 ∨ kd = 2 ∨ kd = 3) {k : Nat} {t : Tr} (ht : ts.getD k default = t) : (plT t k).filter (fun p => p.k == kd) = if t.kind = kd then [plA ts kd k] else [] := by
  unfold plT plA
  rw [Int.toNat_natCast, ht]
  by_cases e : t.kind = kd
  · subst e
    rcases hkd with e | e | e <;> rw [e] <;> simp
  · rw [if_neg e]
    split
    · simp; omega
    · split
      · simp; omega
      · rfl
theorem KiP.step {ts : List Tr} {kd : Int} {k : Nat} {out : List Int} {t : Tr} (hkd : kd = 1 ∨ kd = 2 ∨ kd = 3) (h : KiP ts kd k out) (hk : k < ts.length) (ht : ts.getD k default = t) : KiP ts kd (k + 1) (if t.kind = kd then insK ts kd out t k else out) := by
  have htk : ts.take (k + 1) = ts.take k ++ [t] := by
    obtain ⟨x, hd, hg, -, hat⟩ := drop_at hk
    rw [List.take_add_one, hat, ← ht, hg]; rfl
  have hf : (plsT 0 (ts.take (k + 1))).filter (fun p => p.k == kd) = (plsT 0 (ts.take k)).filter (fun p => p.k == kd) ++ (if t.kind = kd then [plA ts kd k] else []) := by
    rw [htk, plsT_app, List.filter_append, Nat.zero_add, List.length_take, Nat.min_eq_left (by omega)]
    congr 1
    simp only [plsT, List.append_nil]
    exact pl_filter hkd ht
  by_cases e : t.kind = kd
  · rw [if_pos e] at hf ⊢
    refine ⟨fun x hx => ?_, ?_, ?_⟩
    · rcases insK_mem hx with h1 | h1
      · have := h.mem x h1; omega
      · subst h1; omega
    · rw [hf]
      refine List.Perm.trans ?_ (h.perm.append_right _)
      simp only [insK, List.map_append, List.map_cons, List.map_nil, List.append_assoc]
      refine List.Perm.trans (List.Perm.append_left _ List.perm_append_comm) ?_
      rw [← List.append_assoc, ← List.map_append, List.take_append_drop]
    · have hs := h.srt
      unfold SrtP at hs ⊢
      have hp := posK_le ts kd out t out.length
      have hafter := posK_after ts kd out t out.length
      have hat := posK_at ts kd out t (n := out.length)
      have hone := fun e : kd = 1 => (by subst e; exact posK_one ts out t out.length : posK ts kd out t out.length = out.length)
      unfold insK
      generalize posK ts kd out t out.length = p at *
      have hsplit : out.map (plA ts kd) = (out.take p).map (plA ts kd) ++ (out.drop p).map (plA ts kd) := by rw [← List.map_append, List.take_append_drop]
      rw [hsplit, List.pairwise_append] at hs
      simp only [List.map_append, List.map_cons, List.map_nil, List.append_assoc]
      rw [List.pairwise_append]
      have hidx : ∀ j, j < out.length → out.getD j 0 ∈ out := fun j hj => by rw [List.getD_eq_getElem?_getD, List.getElem?_eq_getElem hj]; exact List.getElem_mem hj
      have hbefore : ∀ a, a ∈ (out.take p).map (plA ts kd) → lessP (plA ts kd k) a = false := by
        intro a ha
        obtain ⟨x, hx, rfl⟩ := List.mem_map.1 ha
        obtain ⟨j, hj⟩ := List.mem_iff_getElem?.1 hx
        have hjp : j < p := by have := (List.getElem?_eq_some_iff.1 hj).1; simp at this; omega
        rw [List.getElem?_take, if_pos hjp] at hj
        have hxk := h.mem x (List.mem_of_getElem? hj)
        rw [lessP_not]
        by_cases k1 : kd = 1
        · simp only [plA, k1, if_true]; omega
        · have h1 := hat k1 (by omega)
          have h2 : (ts.getD x.toNat default).att ≤ (ts.getD (out.getD (p - 1) 0).toNat default).att := by
            by_cases ej : j = p - 1
            · rw [← ej, List.getD_eq_getElem?_getD (l := out), hj]; exact Int.le_refl _
            · have hpw := h.srt
              unfold SrtP at hpw
              rw [List.pairwise_iff_getElem] at hpw
              have h3 := hpw j (p - 1) (by simp; omega) (by simp; omega) (by omega)
              rw [lessP_not] at h3
              have e1 : out[j]'(by omega) = x := by
                have : out[j]? = some (out[j]'(by omega)) := List.getElem?_eq_getElem (by omega)
                rw [hj] at this; exact (Option.some.inj this).symm
              have e2 : out.getD (p - 1) 0 = out[p - 1]'(by omega) := by rw [List.getD_eq_getElem?_getD, List.getElem?_eq_getElem (by omega)]; rfl
              simp only [List.getElem_map, plA, if_neg k1, e1, true_and] at h3
              rw [e2]; omega
          simp only [plA, if_neg k1, Int.toNat_natCast, ht]
          omega
      have hbehind : ∀ b, b ∈ (out.drop p).map (plA ts kd) → lessP b (plA ts kd k) = false := by
        intro b hb
        obtain ⟨x, hx, rfl⟩ := List.mem_map.1 hb
        obtain ⟨j, hj⟩ := List.mem_iff_getElem?.1 hx
        rw [List.getElem?_drop] at hj
        have hjl := (List.getElem?_eq_some_iff.1 hj).1
        have h1 := hafter (p + j) (by omega) hjl
        rw [List.getD_eq_getElem?_getD (l := out), hj, Option.getD_some] at h1
        rw [lessP_not]
        simp only [plA, if_neg h1.1, Int.toNat_natCast, ht]
        omega
      refine ⟨hs.1, ?_, fun a ha b hb => ?_⟩
      · exact List.Pairwise.cons hbehind hs.2.1
      · rcases List.mem_cons.1 hb with rfl | hb
        · exact hbefore a ha
        · exact hs.2.2 a ha b hb
  · rw [if_neg e] at hf ⊢
    rw [List.append_nil] at hf
    exact ⟨fun x hx => by have := h.mem x hx; omega, by rw [hf]; exact h.perm, h.srt⟩
theorem kindGo_ok {ts : List Tr} {kd : Int} (hkd : kd = 1 ∨ kd = 2 ∨ kd = 3) : ∀ (r : List Tr) (k : Nat) (out : List Int), ts.drop k = r → KiP ts kd k out → KiP ts kd ts.length (kindGo ts kd k r out)
  | [], k, out, hd, h => by
    have hl : ts.length ≤ k := by
      by_cases e : k < ts.length
      · obtain ⟨x, hd', _⟩ := drop_at e
        rw [hd] at hd'; cases hd'
      · omega
    rw [kindGo]
    refine ⟨fun e he => ?_, ?_, h.srt⟩
    · have h1 : (plA ts kd e) ∈ (plsT 0 (ts.take k)).filter (fun p => p.k == kd) := h.perm.mem_iff.1 (List.mem_map.2 ⟨e, he, rfl⟩)
      obtain ⟨j, t, g1, g2⟩ := plsT_mem (List.mem_filter.1 h1).1
      have g3 := (plT_mem g2).2.1
      have g4 := (List.getElem?_eq_some_iff.1 g1).1
      have := h.mem e he
      simp only [plA] at g3
      simp at g4
      omega
    · have := h.perm
      rw [List.take_of_length_le hl] at this
      rw [List.take_length]; exact this
  | t :: r, k, out, hd, h => by
    have hk : k < ts.length := by
      by_cases e : k < ts.length
      · exact e
      · rw [List.drop_eq_nil_of_le (by omega)] at hd; cases hd
    obtain ⟨x, hd', hg, -, -⟩ := drop_at hk
    rw [hd] at hd'
    cases hd'
    rw [kindGo]
    exact kindGo_ok hkd _ (k + 1) _ rfl (h.step hkd hk (hg _))
theorem kindT_ok {ts : List Tr} {kd : Int} (hkd : kd = 1 ∨ kd = 2 ∨ kd = 3) : KiP ts kd ts.length (kindT ts kd) :=
  kindGo_ok hkd ts 0 [] rfl ⟨by simp, by simp [plsT], List.Pairwise.nil⟩
theorem order_eq (ts : List Tr) : orderT ts = (kindT ts 1 ++ kindT ts 2) ++ kindT ts 3 := by
  have h1 := kindT_ok (ts := ts) (kd := 1) (.inl rfl)
  have h2 := kindT_ok (ts := ts) (kd := 2) (.inr (.inl rfl))
  have h3 := kindT_ok (ts := ts) (kd := 3) (.inr (.inr rfl))
  have hs : SrtP (((kindT ts 1).map (plA ts 1) ++ (kindT ts 2).map (plA ts 2)) ++ (kindT ts 3).map (plA ts 3)) := by
    unfold SrtP
    rw [List.pairwise_append, List.pairwise_append]
    refine ⟨⟨h1.srt, h2.srt, fun a ha b hb => ?_⟩, h3.srt, fun a ha b hb => ?_⟩
    · obtain ⟨x, -, rfl⟩ := List.mem_map.1 ha
      obtain ⟨y, -, rfl⟩ := List.mem_map.1 hb
      rw [lessP_not]; simp only [plA]; omega
    · obtain ⟨y, -, rfl⟩ := List.mem_map.1 hb
      rcases List.mem_append.1 ha with ha | ha <;> obtain ⟨x, -, rfl⟩ := List.mem_map.1 ha <;> rw [lessP_not] <;> simp only [plA] <;> omega
  have hk : ∀ p, p ∈ plsT 0 ts → p.k = 1 ∨ p.k = 2 ∨ p.k = 3 := fun p hp => by
    obtain ⟨j, t, -, g2⟩ := plsT_mem hp
    have := plT_mem g2
    omega
  have hperm : ∀ (l : List Pl), (∀ p, p ∈ l → p.k = 1 ∨ p.k = 2 ∨ p.k = 3) → ((l.filter (fun p => p.k == 1) ++ l.filter (fun p => p.k == 2)) ++ l.filter (fun p => p.k == 3)).Perm l := by
    intro l
    induction l with
    | nil => intro _; exact List.Perm.refl _
    | cons p l ih =>
      intro h
      have ih := ih (fun q hq => h q (List.mem_cons_of_mem _ hq))
      rcases h p List.mem_cons_self with e | e | e
      · simp only [List.filter_cons, e]
        simpa using ih
      · simp only [List.filter_cons, e]
        simp only [show ((2 : Int) == 1) = false from rfl, show ((2 : Int) == 3) = false from rfl, beq_self_eq_true, if_true, Bool.false_eq_true, if_false]
        refine List.Perm.trans ?_ (List.Perm.cons p ih)
        rw [List.append_assoc, List.cons_append, List.append_assoc]
        exact List.perm_middle
      · simp only [List.filter_cons, e]
        simp only [show ((3 : Int) == 1) = false from rfl, show ((3 : Int) == 2) = false from rfl, beq_self_eq_true, if_true, Bool.false_eq_true, if_false]
        exact List.Perm.trans List.perm_middle (List.Perm.cons p ih)
  have ht := List.take_length (l := ts)
  have p1 := h1.perm; have p2 := h2.perm; have p3 := h3.perm
  rw [ht] at p1 p2 p3
  have he := ordP_unique hs (((p1.append p2).append p3).trans (hperm _ hk))
  rw [orderT_eq, ← he]
  simp only [List.map_append, List.map_map]
  have hid : ∀ kd (l : List Int), l.map ((fun p : Pl => p.i) ∘ plA ts kd) = l := fun kd l => by
    conv => rhs; rw [← List.map_id l]
    exact List.map_congr_left fun x _ => rfl
  rw [hid, hid, hid]
end Go.Proofs.Ytgpckelpmincmaa
end
section
set_option linter.unusedSimpArgs false
set_option linter.unusedVariables false
namespace Go.Proofs.Ytgpckelpmincmaa
set_option linter.unusedSimpArgs false
set_option linter.unusedVariables false
open Go.Bx
set_option maxRecDepth 10000
def dupT : List Int → List Tr → Bool
  | _, [] => false
  | seen, t :: r => if t.id ∈ seen then true else dupT (t.id :: seen) r
set_option maxHeartbeats 1000000 in
theorem sTwice (ts : List Tr) (hl : ts.length ≤ 1000) : Ctr Try.prog 44 [.d (slT ts)] [] (.d (.bool (dupT [] ts))) [] [] := by
  refine ctr_pure Try.func44 ok44 rfl cc44 cr44 Try.ntmps44 (by simp) rfl rfl ?_; intro c hP hfn; simp only [kc44, slT, vcb, ↓evSo_some, ↓reduceIte, reduceCtorEq, seval]
  refine vcC.loop (X := Nat × List Int) (fun x => ⟨[(3, .osl 6), (7, .d (slT ts)), (8, .d (.int .i64 ts.length)), (9, .d (.int .i64 x.1))], [(6, .mp (.bool false) (fun n => .bool (decide (n ∈ x.2))))], [6]⟩)
    (fun x => x.1 ≤ ts.length ∧ dupT [] ts = dupT x.2 (ts.drop x.1)) (fun x => ts.length - x.1) (0, []) ⟨Nat.zero_le _, rfl⟩ (Wk.of _ hfn rfl (by simp only [slT, enb, vcb, ↓evSo_some, ↓reduceIte, reduceCtorEq, seval]) (by simp only [List.not_mem_nil, enb, vcb, ↓evSo_some, ↓reduceIte, reduceCtorEq, seval])) ?_
  rintro ⟨k, s⟩ ⟨hk, he⟩
  simp only at hk he
  simp only [slT, vcb, ↓evSo_some, ↓reduceIte, reduceCtorEq, seval]
  refine ⟨fun h1 => ?_, fun h1 => ?_⟩
  · have hlt : k < ts.length := by have := of_decide_eq_true h1; omega
    obtain ⟨t, hd, hg, -, -⟩ := drop_at hlt
    rw [hd, dupT] at he
    simp only [hg, vcb, ↓evSo_some, ↓reduceIte, reduceCtorEq, seval]
    repeat' first
        | refine And.intro (fun h => ?_) (fun h => ?_)
        | refine And.intro (by first | omega | (simp only [maxLen, decide_eq_true_eq, decide_eq_false_iff_not] at *; omega)) ?_
        | (refine TR.aslO rfl rfl rfl rfl trivial (Nat.le_of_ble_eq_true rfl) ?_
           try simp only [hg, vcb, ↓evSo_some, ↓reduceIte, reduceCtorEq, seval])
        | refine And.intro trivial ?_
        | refine And.intro rfl ?_
        | fail
    · have h' : t.id ∈ s := by simpa using h
      exact RetK.pure (by simp only [rs44, rsb, vcb, ↓evSo_some, ↓reduceIte, reduceCtorEq, seval]) (by (simp only [rs44, rsb, vcb, ↓evSo_some, ↓reduceIte, reduceCtorEq, seval, enb, vcb, ↓evSo_some, ↓reduceIte, reduceCtorEq, seval]) <;> (first | rw [he, if_pos h']))
    · have h' : ¬ t.id ∈ s := by simpa using h
      rw [if_neg h'] at he
      refine lopK.on (k + 1, t.id :: s) ⟨hlt, he⟩ (by simp only; omega) (Wk.of _ hfn rfl (by simp only [slT, enb, vcb, ↓evSo_some, ↓reduceIte, reduceCtorEq, seval]; exact wS (by omega)) ?_)
      simp only [enb, vcb, ↓evSo_some, ↓reduceIte, reduceCtorEq, seval]
      refine OLe.eq ?_
      congr 1
      funext n
      by_cases e : n = t.id <;> simp [e]
  · have hkl : k = ts.length := by have := of_decide_eq_false h1; omega
    rw [hkl, List.drop_length, dupT] at he
    exact RetK.pure (by simp only [rs44, rsb, vcb, ↓evSo_some, ↓reduceIte, reduceCtorEq, seval]) (by (simp only [rs44, rsb, vcb, ↓evSo_some, ↓reduceIte, reduceCtorEq, seval, enb, vcb, ↓evSo_some, ↓reduceIte, reduceCtorEq, seval]) <;> (first | rw [he]))
def bpsT (x : Ls) (ts : List Tr) : List Int := (ts.filter fun t => t.kind == 1 && takesT t x).map (·.bp)
theorem bps_snoc (x : Ls) (ts : List Tr) (t : Tr) : bpsT x (ts ++ [t]) = bpsT x ts ++ (if (t.kind == 1 && takesT t x) = true then [t.bp] else []) := by
  simp only [bpsT, List.filter_append, List.map_append]
  congr 1
  by_cases h : (t.kind == 1 && takesT t x) = true
  · simp [h]
  · simp [h]
theorem bps_bounds (x : Ls) : ∀ (ts : List Tr), 0 ≤ (bpsT x ts).sum ∧ (bpsT x ts).sum ≤ 10000 * ts.length
  | [] => by simp [bpsT]
  | t :: r => by
    have ih := bps_bounds x r
    have e : bpsT x (t :: r) = (if (t.kind == 1 && takesT t x) = true then [t.bp] else []) ++ bpsT x r := by
      simp only [bpsT, List.filter_cons]
      split <;> simp
    rw [e, List.sum_append, List.length_cons]
    by_cases h : (t.kind == 1 && takesT t x) = true
    · rw [if_pos h]
      have h' : t.kind = 1 ∧ takesT t x = true := by simpa using h
      have := right_bp (takes_right h'.2).1 h'.1
      simp only [List.sum_cons, List.sum_nil]; omega
    · rw [if_neg h]; simp only [List.sum_nil]; omega
def overT (ts : List Tr) (x : Ls) : Bool := decide ((bpsT x ts).sum > 10000)
set_option maxHeartbeats 1000000 in
theorem sOver (ts : List Tr) (x : Ls) (hl : ts.length ≤ 1000) : Ctr Try.prog 46 [.d (slT ts), vX x] [] (.d (.bool (overT ts x))) [] [] := by
  refine ctr_pure Try.func46 ok46 rfl cc46 cr46 Try.ntmps46 (by simp) rfl rfl ?_; intro c hP hfn; simp only [kc46, slT, vX, cX', vcb, ↓evSo_some, ↓reduceIte, reduceCtorEq, seval]
  refine vcC.loop (X := Nat) (fun k => ⟨[(3, .own 3 0), (5, .d (.int .i64 (bpsT x (ts.take k)).sum)), (8, .d (slT ts)), (9, .d (.int .i64 ts.length)), (10, .d (.int .i64 k))], [(3, .fix (cX' x))], [3]⟩)
    (fun k => k ≤ ts.length) (fun k => ts.length - k) 0 (Nat.zero_le _) (Wk.of _ hfn rfl (by simp only [slT, bpsT, List.take_zero, List.filter_nil, List.map_nil, List.sum_nil, enb, vcb, ↓evSo_some, ↓reduceIte, reduceCtorEq, seval]) (by simp only [cX', enb, vcb, ↓evSo_some, ↓reduceIte, reduceCtorEq, seval])) ?_
  rintro k hk
  simp only [slT, cX', vcb, ↓evSo_some, ↓reduceIte, reduceCtorEq, seval]
  refine ⟨fun h1 => ?_, fun h1 => ?_⟩
  · have hlt : k < ts.length := by have := of_decide_eq_true h1; omega
    obtain ⟨t, hd, hg, -, hat⟩ := drop_at hlt
    have ht : ts.take (k + 1) = ts.take k ++ [t] := by rw [List.take_add_one, hat]; rfl
    have hb := bps_bounds x (ts.take k)
    have hb2 := bps_bounds x (ts.take (k + 1))
    have hsn := bps_snoc x (ts.take k) t
    rw [← ht] at hsn
    have hlen : (ts.take (k + 1)).length ≤ 1000 := by rw [List.length_take]; omega
    have cT := s23 t x
    simp only [vT, Go.Proofs.Ytgpckelpmincmaa.cT, vX, cX'] at cT
    simp only [hg, vcb, ↓evSo_some, ↓reduceIte, reduceCtorEq, seval]
    repeat' first
        | (first
            | refine TR.p hP (by first | exact cT) (by repeat' first | exact trivial | (intro _; assumption) | apply And.intro) ?_
            | refine TR.gp hP rfl (fun _ => by first | exact cT) (fun _ => by repeat' first | exact trivial | (intro _; assumption) | apply And.intro) ?_
            | refine TR.pv hP rfl (by first | exact cT) trivial (by repeat' first | exact trivial | (intro _; assumption) | apply And.intro) ?_
           try simp only [hg, vcb, ↓evSo_some, ↓reduceIte, reduceCtorEq, seval])
        | refine And.intro (fun h => ?_) (fun h => ?_)
        | refine And.intro (by first | omega | (simp only [maxLen, decide_eq_true_eq, decide_eq_false_iff_not] at *; omega)) ?_
        | (refine TR.aslO rfl rfl rfl rfl trivial (Nat.le_of_ble_eq_true rfl) ?_
           try simp only [hg, vcb, ↓evSo_some, ↓reduceIte, reduceCtorEq, seval])
        | refine And.intro trivial ?_
        | refine And.intro rfl ?_
        | fail
    · have h' : (t.kind == 1 && takesT t x) = true := by simpa using h
      rw [if_pos h'] at hsn
      have hs : (bpsT x (ts.take (k + 1))).sum = (bpsT x (ts.take k)).sum + t.bp := by rw [hsn, List.sum_append]; simp
      have ew : IntKind.i64.wrap ((bpsT x (ts.take k)).sum + t.bp) = (bpsT x (ts.take (k + 1))).sum := by rw [← hs]; exact wI (by omega)
      exact lopK.on (k + 1) hlt (by omega) (Wk.of _ hfn rfl (by simp only [slT, ew, enb, vcb, ↓evSo_some, ↓reduceIte, reduceCtorEq, seval]; exact wS (by omega)) (by simp only [cX', enb, vcb, ↓evSo_some, ↓reduceIte, reduceCtorEq, seval]))
    · have h' : ¬ (t.kind == 1 && takesT t x) = true := by simpa using h
      rw [if_neg h', List.append_nil] at hsn
      exact lopK.on (k + 1) hlt (by omega) (Wk.of _ hfn rfl (by simp only [slT, hsn, enb, vcb, ↓evSo_some, ↓reduceIte, reduceCtorEq, seval]; exact wS (by omega)) (by simp only [cX', enb, vcb, ↓evSo_some, ↓reduceIte, reduceCtorEq, seval]))
  · have hkl : k = ts.length := by have := of_decide_eq_false h1; omega
    rw [hkl, List.take_length]
    exact RetK.pure (by simp only [rs46, rsb, vcb, ↓evSo_some, ↓reduceIte, reduceCtorEq, seval]) (by (simp only [rs46, rsb, vcb, ↓evSo_some, ↓reduceIte, reduceCtorEq, seval, enb, vcb, ↓evSo_some, ↓reduceIte, reduceCtorEq, seval]) <;> (first | rfl))
def idxT (p : Tr → Bool) : Nat → List Tr → Int
  | _, [] => -1
  | k, x :: r => if p x = true then (k : Int) else idxT p (k + 1) r
theorem idxT_any (p : Tr → Bool) : ∀ (l : List Tr) (k : Nat), decide (idxT p k l ≥ 0) = l.any p
  | [], k => by simp [idxT]
  | x :: r, k => by
    by_cases h : p x = true
    · simp [idxT, h]
    · simp [idxT, h]; simpa using idxT_any p r (k + 1)
theorem sIdxT (g : Nat) (p : Tr → Bool) (hg : ∀ x, Ctr Try.prog g [vT x] [] (.d (.bool (p x))) [] []) (l : List Tr) (hl : l.length ≤ 9223372036854775807) : Ctr Try.prog 60 [.d (slT l), .fn (.func g) [] []] [] (.d (.int .i64 (idxT p 0 l))) [] [] := by
  refine ctr_pure Try.func60 ok60 rfl cc60 cr60 Try.ntmps60 (by simp) rfl rfl ?_; intro c hP hfn; simp only [kc60, slT, vcb, ↓evSo_some, ↓reduceIte, reduceCtorEq, seval]
  refine vcC.loop (X := Nat) (fun k => ⟨[(0, .d (slT l)), (1, .fn (.func g) [] []), (7, .d (.int .i64 l.length)), (8, .d (.int .i64 k))], [], []⟩)
    (fun k => k ≤ l.length ∧ idxT p 0 l = idxT p k (l.drop k)) (fun k => l.length - k) 0 ⟨Nat.zero_le _, rfl⟩ (Wk.of [] hfn rfl (by simp only [slT, enb, vcb, ↓evSo_some, ↓reduceIte, reduceCtorEq, seval]) (by simp only [enb, vcb, ↓evSo_some, ↓reduceIte, reduceCtorEq, seval])) ?_
  rintro k ⟨hk, he⟩
  simp only [slT, vcb, ↓evSo_some, ↓reduceIte, reduceCtorEq, seval]
  refine ⟨fun h1 => ?_, fun h1 => ?_⟩
  · have hlt : k < l.length := by simpa using h1
    obtain ⟨x, hd, hg', -, -⟩ := drop_at hlt
    simp only [hg']
    rw [hd, idxT] at he
    repeat' first
        | (first
            | refine TR.p hP (by first | exact hg x) (by repeat' first | exact trivial | (intro _; assumption) | apply And.intro) ?_
            | refine TR.gp hP rfl (fun _ => by first | exact hg x) (fun _ => by repeat' first | exact trivial | (intro _; assumption) | apply And.intro) ?_
            | refine TR.pv hP rfl (by first | exact hg x) trivial (by repeat' first | exact trivial | (intro _; assumption) | apply And.intro) ?_
           try simp only [vcb, ↓evSo_some, ↓reduceIte, reduceCtorEq, seval])
        | refine And.intro (fun h => ?_) (fun h => ?_)
        | refine And.intro (by first | omega | (simp only [maxLen, decide_eq_true_eq, decide_eq_false_iff_not] at *; omega)) ?_
        | (refine TR.aslO rfl rfl rfl rfl trivial (Nat.le_of_ble_eq_true rfl) ?_
           try simp only [vcb, ↓evSo_some, ↓reduceIte, reduceCtorEq, seval])
        | refine And.intro trivial ?_
        | refine And.intro rfl ?_
        | fail
    · exact RetK.pure (by simp only [rs60, rsb, vcb, ↓evSo_some, ↓reduceIte, reduceCtorEq, seval]) (by (simp only [rs60, rsb, vcb, ↓evSo_some, ↓reduceIte, reduceCtorEq, seval, enb, vcb, ↓evSo_some, ↓reduceIte, reduceCtorEq, seval]) <;> (first | rw [he, if_pos h]))
    · refine lopK.on (k + 1) ⟨hlt, ?_⟩ (by omega) (Wk.of [] hfn rfl (by simp only [slT, enb, vcb, ↓evSo_some, ↓reduceIte, reduceCtorEq, seval]; exact wS (by omega)) (by simp only [enb, vcb, ↓evSo_some, ↓reduceIte, reduceCtorEq, seval]))
      rw [he, h]; simp
  · have hkl : k = l.length := by simp at h1; omega
    rw [hkl] at he
    exact RetK.pure (by simp only [rs60, rsb, vcb, ↓evSo_some, ↓reduceIte, reduceCtorEq, seval]) (by (simp only [rs60, rsb, vcb, ↓evSo_some, ↓reduceIte, reduceCtorEq, seval, enb, vcb, ↓evSo_some, ↓reduceIte, reduceCtorEq, seval]) <;> (first | simp [he, idxT]))
theorem sAnyT (g : Nat) (p : Tr → Bool) (hg : ∀ x, Ctr Try.prog g [vT x] [] (.d (.bool (p x))) [] []) (l : List Tr) (hl : l.length ≤ 9223372036854775807) : Ctr Try.prog 42 [.d (slT l), .fn (.func g) [] []] [] (.d (.bool (l.any p))) [] [] := by
  refine ctr_pure Try.func42 ok42 rfl cc42 cr42 Try.ntmps42 (by simp) rfl rfl ?_; intro c hP hfn; simp only [kc42, slT, vcb, ↓evSo_some, ↓reduceIte, reduceCtorEq, seval]
  repeat' first
      | (first
          | refine TR.p hP (by first | exact sIdxT g p hg l hl) (by repeat' first | exact trivial | (intro _; assumption) | apply And.intro) ?_
          | refine TR.gp hP rfl (fun _ => by first | exact sIdxT g p hg l hl) (fun _ => by repeat' first | exact trivial | (intro _; assumption) | apply And.intro) ?_
          | refine TR.pv hP rfl (by first | exact sIdxT g p hg l hl) trivial (by repeat' first | exact trivial | (intro _; assumption) | apply And.intro) ?_
         try simp only [vcb, ↓evSo_some, ↓reduceIte, reduceCtorEq, seval])
      | refine And.intro (fun h => ?_) (fun h => ?_)
      | refine And.intro (by first | omega | (simp only [maxLen, decide_eq_true_eq, decide_eq_false_iff_not] at *; omega)) ?_
      | (refine TR.aslO rfl rfl rfl rfl trivial (Nat.le_of_ble_eq_true rfl) ?_
         try simp only [vcb, ↓evSo_some, ↓reduceIte, reduceCtorEq, seval])
      | refine And.intro trivial ?_
      | refine And.intro rfl ?_
      | fail
  exact RetK.pure (by simp only [rs42, rsb, vcb, ↓evSo_some, ↓reduceIte, reduceCtorEq, seval]) (by (simp only [rs42, rsb, vcb, ↓evSo_some, ↓reduceIte, reduceCtorEq, seval, enb, vcb, ↓evSo_some, ↓reduceIte, reduceCtorEq, seval]) <;> (first | exact idxT_any p l 0))
theorem sMay1 (t : Tr) : Ctr Try.prog 40 [vT t] [] (.d (.bool (!(rightT t)))) [] [] := by
  refine ctr_pure Try.func40 ok40 rfl cc40 cr40 Try.ntmps40 (by simp) rfl rfl ?_; intro c hP hfn; simp only [kc40, vT, cT, vcb, ↓evSo_some, ↓reduceIte, reduceCtorEq, seval]
  repeat' first
      | (first
          | refine TR.p hP (by first | exact s26 t) (by repeat' first | exact trivial | (intro _; assumption) | apply And.intro) ?_
          | refine TR.gp hP rfl (fun _ => by first | exact s26 t) (fun _ => by repeat' first | exact trivial | (intro _; assumption) | apply And.intro) ?_
          | refine TR.pv hP rfl (by first | exact s26 t) trivial (by repeat' first | exact trivial | (intro _; assumption) | apply And.intro) ?_
         try simp only [vT, cT, vcb, ↓evSo_some, ↓reduceIte, reduceCtorEq, seval])
      | refine And.intro (fun h => ?_) (fun h => ?_)
      | refine And.intro (by first | omega | (simp only [maxLen, decide_eq_true_eq, decide_eq_false_iff_not] at *; omega)) ?_
      | (refine TR.aslO rfl rfl rfl rfl trivial (Nat.le_of_ble_eq_true rfl) ?_
         try simp only [vT, cT, vcb, ↓evSo_some, ↓reduceIte, reduceCtorEq, seval])
      | refine And.intro trivial ?_
      | refine And.intro rfl ?_
      | fail
  exact RetK.pure (by simp only [rs40, rsb, vcb, ↓evSo_some, ↓reduceIte, reduceCtorEq, seval]) (by simp only [rs40, rsb, vcb, ↓evSo_some, ↓reduceIte, reduceCtorEq, seval, enb, vcb, ↓evSo_some, ↓reduceIte, reduceCtorEq, seval])
theorem sMay2 (x : Ls) : Ctr Try.prog 41 [vX x] [] (.d (.bool (!(lossX x)))) [] [] := by
  refine ctr_pure Try.func41 ok41 rfl cc41 cr41 Try.ntmps41 (by simp) rfl rfl ?_; intro c hP hfn; simp only [kc41, vX, cX', vcb, ↓evSo_some, ↓reduceIte, reduceCtorEq, seval]
  repeat' first
      | (first
          | refine TR.p hP (by first | exact s28 x) (by repeat' first | exact trivial | (intro _; assumption) | apply And.intro) ?_
          | refine TR.gp hP rfl (fun _ => by first | exact s28 x) (fun _ => by repeat' first | exact trivial | (intro _; assumption) | apply And.intro) ?_
          | refine TR.pv hP rfl (by first | exact s28 x) trivial (by repeat' first | exact trivial | (intro _; assumption) | apply And.intro) ?_
         try simp only [vX, cX', vcb, ↓evSo_some, ↓reduceIte, reduceCtorEq, seval])
      | refine And.intro (fun h => ?_) (fun h => ?_)
      | refine And.intro (by first | omega | (simp only [maxLen, decide_eq_true_eq, decide_eq_false_iff_not] at *; omega)) ?_
      | (refine TR.aslO rfl rfl rfl rfl trivial (Nat.le_of_ble_eq_true rfl) ?_
         try simp only [vX, cX', vcb, ↓evSo_some, ↓reduceIte, reduceCtorEq, seval])
      | refine And.intro trivial ?_
      | refine And.intro rfl ?_
      | fail
  exact RetK.pure (by simp only [rs41, rsb, vcb, ↓evSo_some, ↓reduceIte, reduceCtorEq, seval]) (by simp only [rs41, rsb, vcb, ↓evSo_some, ↓reduceIte, reduceCtorEq, seval, enb, vcb, ↓evSo_some, ↓reduceIte, reduceCtorEq, seval])
theorem sMay3' (ts : List Tr) (x : Ls) (hl : ts.length ≤ 1000) : Ctr Try.prog 45 [vX x, .own 700 0] [(700, .fix [.d (slT ts)])] (.d (.bool (overT ts x))) [(700, .fix [.d (slT ts)])] [] := by
  refine ctr_own Try.func45 ok45 rfl cc45 cr45 Try.ntmps45 (by simp [vX]) rfl ?_
  intro c hP hfn
  have co := sOver ts x hl
  simp only [kc45, namesL, V.names, ownNames, vX, cX', slT, vcb, ↓evSo_some, ↓reduceIte, reduceCtorEq, seval]
  simp only [slT, vX, cX'] at co
  repeat' first
      | (first
          | refine TR.p hP (by first | exact co) (by repeat' first | exact trivial | (intro _; assumption) | apply And.intro) ?_
          | refine TR.gp hP rfl (fun _ => by first | exact co) (fun _ => by repeat' first | exact trivial | (intro _; assumption) | apply And.intro) ?_
          | refine TR.pv hP rfl (by first | exact co) trivial (by repeat' first | exact trivial | (intro _; assumption) | apply And.intro) ?_
         try simp only [vcb, ↓evSo_some, ↓reduceIte, reduceCtorEq, seval])
      | refine And.intro (fun h => ?_) (fun h => ?_)
      | refine And.intro (by first | omega | (simp only [maxLen, decide_eq_true_eq, decide_eq_false_iff_not] at *; omega)) ?_
      | (refine TR.aslO rfl rfl rfl rfl trivial (Nat.le_of_ble_eq_true rfl) ?_
         try simp only [vcb, ↓evSo_some, ↓reduceIte, reduceCtorEq, seval])
      | refine And.intro trivial ?_
      | refine And.intro rfl ?_
      | fail
  refine RetK.mk _ (Wk.refl _ _) (by simp only [rs45, rsb, vcb, ↓evSo_some, ↓reduceIte, reduceCtorEq, seval]) (by simp only [rs45, rsb, vcb, ↓evSo_some, ↓reduceIte, reduceCtorEq, seval, enb, vcb, ↓evSo_some, ↓reduceIte, reduceCtorEq, seval]) ?_
  simp only [enb, vcb, ↓evSo_some, ↓reduceIte, reduceCtorEq, seval]
theorem sMay3 (ts : List Tr) (x : Ls) (hl : ts.length ≤ 1000) : Ctr Try.prog 45 [vX x, .own 2 0] [(2, .fix [.d (slT ts)])] (.d (.bool (overT ts x))) [(2, .fix [.d (slT ts)])] [] := by
  have := (sMay3' ts x hl).sw 700 2
  simpa only [vX, cX', slT, vcb, ↓evSo_some, ↓reduceIte, reduceCtorEq, seval] using this
def oT (ts : List Tr) : Own := .fix [.d (slT ts)]
theorem sIdxC (ts : List Tr) (g : Nat) (p : Ls → Bool) (hg : ∀ x, Ctr Try.prog g [vX x, .own 2 0] [(2, oT ts)] (.d (.bool (p x))) [(2, oT ts)] []) (l : List Ls) (hl : l.length ≤ 9223372036854775807) :
    Ctr Try.prog 61 [.d (slX l), .fn (.func g) [] [.own 2 0]] [(2, oT ts)] (.d (.int .i64 (idxX p 0 l))) [(2, oT ts)] [] := by
  refine ctr_own Try.func61 ok61 rfl cc61 cr61 Try.ntmps61 (by simp) rfl ?_
  intro c hP hfn
  simp only [kc61, namesL, V.names, ownNames, oT, slX, vcb, ↓evSo_some, ↓reduceIte, reduceCtorEq, seval]
  refine vcC.loop (X := Nat) (fun k => ⟨[(0, .d (slX l)), (1, .fn (.func g) [] [.own 2 0]), (7, .d (.int .i64 l.length)), (8, .d (.int .i64 k))], [(2, oT ts)], [2]⟩)
    (fun k => k ≤ l.length ∧ idxX p 0 l = idxX p k (l.drop k)) (fun k => l.length - k) 0 ⟨Nat.zero_le _, rfl⟩ (Wk.of _ hfn rfl (by simp only [slX, enb, vcb, ↓evSo_some, ↓reduceIte, reduceCtorEq, seval]) (by simp only [oT, enb, vcb, ↓evSo_some, ↓reduceIte, reduceCtorEq, seval])) ?_
  rintro k ⟨hk, he⟩
  simp only [slX, vcb, ↓evSo_some, ↓reduceIte, reduceCtorEq, seval]
  refine ⟨fun h1 => ?_, fun h1 => ?_⟩
  · have hlt : k < l.length := by simpa using h1
    obtain ⟨x, hd, hg', -, -⟩ := drop_at hlt
    simp only [hg', vcb, ↓evSo_some, ↓reduceIte, reduceCtorEq, seval]
    rw [hd, idxX] at he
    refine ⟨by omega, ?_⟩
    refine TR.keep [2] (.d (.bool (p x))) (valid_keep (ins := [(2, oT ts)]) (valid_callv (f := g) (first := []) (cap := [.own 2 0]) rfl (by rw [hP]; exact hg x) trivial (by repeat' first | exact trivial | (intro _; assumption) | apply And.intro) (hin1 rfl) (by simp [keysO])) (hin1 rfl) (by simp [keysO]) (by simp [keysO])) ?_
    simp only [vcb, ↓evSo_some, ↓reduceIte, reduceCtorEq, seval]
    refine ⟨fun h => ?_, fun h => ?_⟩
    · refine RetK.mk _ (Wk.refl _ _) (by simp only [rs61, rsb, vcb, ↓evSo_some, ↓reduceIte, reduceCtorEq, seval]) (by simp only [rs61, rsb, vcb, ↓evSo_some, ↓reduceIte, reduceCtorEq, seval, enb, vcb, ↓evSo_some, ↓reduceIte, reduceCtorEq, seval]; rw [he, if_pos h]) ?_
      simp only [oT, enb, vcb, ↓evSo_some, ↓reduceIte, reduceCtorEq, seval]
    · refine lopK.on (k + 1) ⟨hlt, ?_⟩ (by omega) (Wk.of _ hfn rfl (by simp only [slX, enb, vcb, ↓evSo_some, ↓reduceIte, reduceCtorEq, seval]; exact wS (by omega)) (by simp only [oT, enb, vcb, ↓evSo_some, ↓reduceIte, reduceCtorEq, seval]))
      rw [he, h]; simp
  · have hkl : k = l.length := by simp at h1; omega
    rw [hkl] at he
    refine RetK.mk _ (Wk.refl _ _) (by simp only [rs61, rsb, vcb, ↓evSo_some, ↓reduceIte, reduceCtorEq, seval]) (by simp only [rs61, rsb, vcb, ↓evSo_some, ↓reduceIte, reduceCtorEq, seval, enb, vcb, ↓evSo_some, ↓reduceIte, reduceCtorEq, seval]; simp [he, idxX]) ?_
    simp only [oT, enb, vcb, ↓evSo_some, ↓reduceIte, reduceCtorEq, seval]
theorem sAnyC (ts : List Tr) (g : Nat) (p : Ls → Bool) (hg : ∀ x, Ctr Try.prog g [vX x, .own 2 0] [(2, oT ts)] (.d (.bool (p x))) [(2, oT ts)] []) (l : List Ls) (hl : l.length ≤ 9223372036854775807) :
    Ctr Try.prog 43 [.d (slX l), .fn (.func g) [] [.own 2 0]] [(2, oT ts)] (.d (.bool (l.any p))) [(2, oT ts)] [] := by
  refine ctr_own Try.func43 ok43 rfl cc43 cr43 Try.ntmps43 (by simp) rfl ?_
  intro c hP hfn
  have ci := sIdxC ts g p hg l hl
  simp only [slX, oT] at ci
  simp only [kc43, namesL, V.names, ownNames, oT, slX, vcb, ↓evSo_some, ↓reduceIte, reduceCtorEq, seval]
  refine TR.keep [2] (.d (.int .i64 (idxX p 0 l))) (valid_keep (ins := [(2, oT ts)]) (valid_call (by rw [hP]; exact ci) (by repeat' first | exact trivial | (intro _; assumption) | apply And.intro) (hin1 rfl) (by simp [keysO])) (hin1 rfl) (by simp [keysO]) (by simp [keysO])) ?_
  simp only [vcb, ↓evSo_some, ↓reduceIte, reduceCtorEq, seval]
  refine RetK.mk _ (Wk.refl _ _) (by simp only [rs43, rsb, vcb, ↓evSo_some, ↓reduceIte, reduceCtorEq, seval]) (by simp only [rs43, rsb, vcb, ↓evSo_some, ↓reduceIte, reduceCtorEq, seval, enb, vcb, ↓evSo_some, ↓reduceIte, reduceCtorEq, seval]; exact idxX_any p l 0) ?_
  simp only [enb, vcb, ↓evSo_some, ↓reduceIte, reduceCtorEq, seval]
def mayT (ts : List Tr) (l : List Ls) : Int :=
  if (ts.any (fun t => !(rightT t)) || l.any (fun x => !(lossX x))) = true then 1
  else if ts.length > 100 ∨ l.length > 2000 then 2
  else if dupT [] ts = true then 8
  else if l.any (overT ts) = true then 13
  else 0
set_option maxHeartbeats 1000000 in
theorem sMay (ts : List Tr) (l : List Ls) (ht : ts.length ≤ 1000) (hl : l.length ≤ 9223372036854775807) : Ctr Try.prog 23 [.d (slT ts), .d (slX l)] [] (.d (.int .i64 (mayT ts l))) [] [] := by
  have ca := sAnyT 40 _ sMay1 ts (by omega)
  have cb := s36 41 _ sMay2 l hl
  have ct := sTwice ts ht
  simp only [slT] at ca ct
  simp only [slX] at cb
  refine ctr_pure Try.func23 ok23 rfl cc23 cr23 Try.ntmps23 (by simp) rfl rfl ?_; intro c hP hfn; simp only [kc23, slT, slX, vcb, ↓evSo_some, ↓reduceIte, reduceCtorEq, seval]
  repeat' first
      | (first
          | refine TR.p hP (by first | exact ca | exact cb | exact ct) (by repeat' first | exact trivial | (intro _; assumption) | apply And.intro) ?_
          | refine TR.gp hP rfl (fun _ => by first | exact ca | exact cb | exact ct) (fun _ => by repeat' first | exact trivial | (intro _; assumption) | apply And.intro) ?_
          | refine TR.pv hP rfl (by first | exact ca | exact cb | exact ct) trivial (by repeat' first | exact trivial | (intro _; assumption) | apply And.intro) ?_
         try simp only [vcb, ↓evSo_some, ↓reduceIte, reduceCtorEq, seval])
      | refine And.intro (fun h => ?_) (fun h => ?_)
      | refine And.intro (by first | omega | (simp only [maxLen, decide_eq_true_eq, decide_eq_false_iff_not] at *; omega)) ?_
      | (refine TR.aslO rfl rfl rfl rfl trivial (Nat.le_of_ble_eq_true rfl) ?_
         try simp only [vcb, ↓evSo_some, ↓reduceIte, reduceCtorEq, seval])
      | refine And.intro trivial ?_
      | refine And.intro rfl ?_
      | fail
  all_goals clear ca cb ct
  all_goals try (exfalso; simp_all; done)
  all_goals try (refine TR.keep [2] (.d (.bool (l.any (overT ts)))) (valid_keep (ins := [(2, oT ts)]) (valid_call (by rw [hP]; exact sAnyC ts 45 (overT ts) (fun x => sMay3 ts x ht) l hl) (by repeat' first | exact trivial | (intro _; assumption) | apply And.intro) (hin1 rfl) (by simp [keysO])) (hin1 rfl) (by simp [keysO]) (by simp [keysO])) ?_; simp only [vcb, ↓evSo_some, ↓reduceIte, reduceCtorEq, seval]; refine ⟨fun h => ?_, fun h => ?_⟩)
  all_goals (refine RetK.pure (by simp only [rs23, rsb, vcb, ↓evSo_some, ↓reduceIte, reduceCtorEq, seval]) ?_; simp only [rs23, rsb, vcb, ↓evSo_some, ↓reduceIte, reduceCtorEq, seval, enb, vcb, ↓evSo_some, ↓reduceIte, reduceCtorEq, seval])
  all_goals (simp only [mayT]; generalize (ts.any fun t => !(rightT t)) = A at *; generalize (l.any fun x => !(lossX x)) = B at *; generalize l.any (overT ts) = C at *; clear hP hfn; grind)
end Go.Proofs.Ytgpckelpmincmaa
end
section
set_option linter.unusedSimpArgs false
set_option linter.unusedVariables false
namespace Go.Proofs.Ytgpckelpmincmaa
set_option linter.unusedSimpArgs false
set_option linter.unusedVariables false
open Go.Bx
set_option maxRecDepth 10000
def seenT (ts : List Tr) : List Int := (ts.map (·.id)).reverse
theorem seen_snoc (ts : List Tr) (t : Tr) : seenT (ts ++ [t]) = t.id :: seenT ts := by simp [seenT]
theorem mem_seen {ts : List Tr} {n : Int} : n ∈ seenT ts ↔ ∃ t, t ∈ ts ∧ t.id = n := by simp [seenT]
def may3 (ts : List Tr) (l : List Ls) : Int := if l.any (overT ts) = true then 13 else 0
def may2 (ts : List Tr) (l : List Ls) : Int := if dupT [] ts = true then 8 else may3 ts l
def may1 (ts : List Tr) (l : List Ls) : Int := if ts.length > 100 ∨ l.length > 2000 then 2 else may2 ts l
def mayL (ts : List Tr) (l r : List Ls) : Int := if r.any (fun x => !(lossX x)) = true then 1 else may1 ts l
def mayR (ts : List Tr) (l : List Ls) (r : List Tr) : Int := if r.any (fun t => !(rightT t)) = true then 1 else mayL ts l l
theorem mayT_eq (ts : List Tr) (l : List Ls) : mayT ts l = mayR ts l ts := by
  unfold mayT mayR mayL may1 may2 may3
  cases h1 : ts.any (fun t => !(rightT t)) <;> simp
def over3 (ts : List Tr) (r : List Ls) : Int := if r.any (overT ts) = true then 13 else 0
set_option maxHeartbeats 4000000 in
theorem rCheck (ts : List Tr) (l : List Ls) (ht : ts.length ≤ 1000) (hl : l.length ≤ 1000000) (hp : ∀ x, x ∈ l → x.per ≤ 9223372036854775807) : Ctr Try.prog 26 [.d (slT ts), .d (slX l)] [] (.d (.int .i64 (mayT ts l))) [] [] := by
  rw [mayT_eq]
  refine ctr_pure Try.func26 ok26 rfl cc26 cr26 Try.ntmps26 (by simp) rfl rfl ?_; intro c hP hfn; simp only [kc26, slT, slX, vcb, ↓evSo_some, ↓reduceIte, reduceCtorEq, seval]
  refine vcC.loop (X := Nat) (fun k => ⟨[(0, .d (slT ts)), (1, .d (slX l)), (5, .d (.int .i64 k))], [], []⟩)
    (fun k => k ≤ ts.length ∧ mayR ts l ts = mayR ts l (ts.drop k)) (fun k => ts.length - k) 0 ⟨Nat.zero_le _, rfl⟩ (Wk.of _ hfn rfl (by simp only [slT, slX, enb, vcb, ↓evSo_some, ↓reduceIte, reduceCtorEq, seval]) (by simp only [enb, vcb, ↓evSo_some, ↓reduceIte, reduceCtorEq, seval])) ?_
  rintro k ⟨hk, he⟩
  simp only [slT, slX, vcb, ↓evSo_some, ↓reduceIte, reduceCtorEq, seval]
  refine ⟨fun h1 => ?_, fun h1 => ?_⟩
  · have hlt : k < ts.length := by have := of_decide_eq_true h1; omega
    obtain ⟨t, hd, hg, -, -⟩ := drop_at hlt
    rw [hd] at he
    have cr := s27 t
    simp only [vT, cT] at cr
    simp only [hg, vcb, ↓evSo_some, ↓reduceIte, reduceCtorEq, seval]
    repeat' first
        | (first
            | refine TR.p hP (by first | exact cr) (by repeat' first | exact trivial | (intro _; assumption) | apply And.intro) ?_
            | refine TR.gp hP rfl (fun _ => by first | exact cr) (fun _ => by repeat' first | exact trivial | (intro _; assumption) | apply And.intro) ?_
            | refine TR.pv hP rfl (by first | exact cr) trivial (by repeat' first | exact trivial | (intro _; assumption) | apply And.intro) ?_
           try simp only [hg, vcb, ↓evSo_some, ↓reduceIte, reduceCtorEq, seval])
        | refine And.intro (fun h => ?_) (fun h => ?_)
        | refine And.intro (by first | omega | (simp only [maxLen, decide_eq_true_eq, decide_eq_false_iff_not] at *; omega)) ?_
        | (refine TR.aslO rfl rfl rfl rfl trivial (Nat.le_of_ble_eq_true rfl) ?_
           try simp only [hg, vcb, ↓evSo_some, ↓reduceIte, reduceCtorEq, seval])
        | refine And.intro trivial ?_
        | refine And.intro rfl ?_
        | fail
    · have e : mayR ts l (t :: ts.drop (k + 1)) = 1 := by
        have h' : rightT t = false := by simpa using h
        simp [mayR, h']
      exact RetK.pure (by simp only [rs26, rsb, vcb, ↓evSo_some, ↓reduceIte, reduceCtorEq, seval]) (by (simp only [rs26, rsb, vcb, ↓evSo_some, ↓reduceIte, reduceCtorEq, seval, enb, vcb, ↓evSo_some, ↓reduceIte, reduceCtorEq, seval]) <;> (first | rw [he, e]))
    · have e : mayR ts l (t :: ts.drop (k + 1)) = mayR ts l (ts.drop (k + 1)) := by
        have h' : rightT t = true := by simpa using h
        simp [mayR, h']
      exact lopK.on (k + 1) ⟨hlt, by rw [he, e]⟩ (by omega) (Wk.of _ hfn rfl (by simp only [slT, slX, enb, vcb, ↓evSo_some, ↓reduceIte, reduceCtorEq, seval]; exact wS (by omega)) (by simp only [enb, vcb, ↓evSo_some, ↓reduceIte, reduceCtorEq, seval]))
  have hkl : k = ts.length := by have := of_decide_eq_false h1; omega
  rw [hkl, List.drop_length] at he
  have he : mayR ts l ts = mayL ts l l := by rw [he]; simp [mayR]
  rw [he]
  clear he h1 hk hkl
  try simp only [slT, slX, vcb, ↓evSo_some, ↓reduceIte, reduceCtorEq, seval]
  refine vcC.loop (X := Nat) (fun k => ⟨[(0, .d (slT ts)), (1, .d (slX l)), (7, .d (.int .i64 k))], [], []⟩)
    (fun k => k ≤ l.length ∧ mayL ts l l = mayL ts l (l.drop k)) (fun k => l.length - k) 0 ⟨Nat.zero_le _, rfl⟩ (Wk.of _ hfn rfl (by simp only [slT, slX, enb, vcb, ↓evSo_some, ↓reduceIte, reduceCtorEq, seval]) (by simp only [enb, vcb, ↓evSo_some, ↓reduceIte, reduceCtorEq, seval])) ?_
  rintro k ⟨hk, he⟩
  simp only [slT, slX, vcb, ↓evSo_some, ↓reduceIte, reduceCtorEq, seval]
  refine ⟨fun h1 => ?_, fun h1 => ?_⟩
  · have hlt : k < l.length := by have := of_decide_eq_true h1; omega
    obtain ⟨x, hd, hg, -, -⟩ := drop_at hlt
    rw [hd] at he
    have cr := s29 x
    simp only [vX, cX'] at cr
    simp only [hg, vcb, ↓evSo_some, ↓reduceIte, reduceCtorEq, seval]
    repeat' first
        | (first
            | refine TR.p hP (by first | exact cr) (by repeat' first | exact trivial | (intro _; assumption) | apply And.intro) ?_
            | refine TR.gp hP rfl (fun _ => by first | exact cr) (fun _ => by repeat' first | exact trivial | (intro _; assumption) | apply And.intro) ?_
            | refine TR.pv hP rfl (by first | exact cr) trivial (by repeat' first | exact trivial | (intro _; assumption) | apply And.intro) ?_
           try simp only [hg, vcb, ↓evSo_some, ↓reduceIte, reduceCtorEq, seval])
        | refine And.intro (fun h => ?_) (fun h => ?_)
        | refine And.intro (by first | omega | (simp only [maxLen, decide_eq_true_eq, decide_eq_false_iff_not] at *; omega)) ?_
        | (refine TR.aslO rfl rfl rfl rfl trivial (Nat.le_of_ble_eq_true rfl) ?_
           try simp only [hg, vcb, ↓evSo_some, ↓reduceIte, reduceCtorEq, seval])
        | refine And.intro trivial ?_
        | refine And.intro rfl ?_
        | fail
    · have e : mayL ts l (x :: l.drop (k + 1)) = 1 := by
        have h' : lossX x = false := by simpa using h
        simp [mayL, h']
      exact RetK.pure (by simp only [rs26, rsb, vcb, ↓evSo_some, ↓reduceIte, reduceCtorEq, seval]) (by (simp only [rs26, rsb, vcb, ↓evSo_some, ↓reduceIte, reduceCtorEq, seval, enb, vcb, ↓evSo_some, ↓reduceIte, reduceCtorEq, seval]) <;> (first | rw [he, e]))
    · have e : mayL ts l (x :: l.drop (k + 1)) = mayL ts l (l.drop (k + 1)) := by
        have h' : lossX x = true := by simpa using h
        simp [mayL, h']
      exact lopK.on (k + 1) ⟨hlt, by rw [he, e]⟩ (by omega) (Wk.of _ hfn rfl (by simp only [slT, slX, enb, vcb, ↓evSo_some, ↓reduceIte, reduceCtorEq, seval]; exact wS (by omega)) (by simp only [enb, vcb, ↓evSo_some, ↓reduceIte, reduceCtorEq, seval]))
  have hkl : k = l.length := by have := of_decide_eq_false h1; omega
  rw [hkl, List.drop_length] at he
  have he : mayL ts l l = may1 ts l := by rw [he]; simp [mayL]
  rw [he]
  clear he h1 hk hkl
  try simp only [slT, slX, vcb, ↓evSo_some, ↓reduceIte, reduceCtorEq, seval]
  repeat' first
      | refine And.intro (fun h => ?_) (fun h => ?_)
      | refine And.intro (by first | omega | (simp only [maxLen, decide_eq_true_eq, decide_eq_false_iff_not] at *; omega)) ?_
      | (refine TR.aslO rfl rfl rfl rfl trivial (Nat.le_of_ble_eq_true rfl) ?_
         try simp only [vcb, ↓evSo_some, ↓reduceIte, reduceCtorEq, seval])
      | refine And.intro trivial ?_
      | refine And.intro rfl ?_
      | fail
  · have e : may1 ts l = 2 := by
      have h' : ts.length > 100 ∨ l.length > 2000 := by
        rw [Bool.or_eq_true, decide_eq_true_eq, decide_eq_true_eq] at h; omega
      rw [may1, if_pos h']
    exact RetK.pure (by simp only [rs26, rsb, vcb, ↓evSo_some, ↓reduceIte, reduceCtorEq, seval]) (by (simp only [rs26, rsb, vcb, ↓evSo_some, ↓reduceIte, reduceCtorEq, seval, enb, vcb, ↓evSo_some, ↓reduceIte, reduceCtorEq, seval]) <;> (first | rw [e]))
  have hsm : ts.length ≤ 100 ∧ l.length ≤ 2000 := by
    rw [Bool.or_eq_false_iff, decide_eq_false_iff_not, decide_eq_false_iff_not] at h; omega
  have m1 : may1 ts l = may2 ts l := by rw [may1, if_neg (by omega)]
  rw [m1]
  clear h m1 he
  refine vcC.loop (X := Nat) (fun i => ⟨[(0, .d (slT ts)), (1, .d (slX l)), (9, .d (.int .i64 i))], [], []⟩)
    (fun i => i ≤ ts.length ∧ dupT [] ts = dupT (seenT (ts.take i)) (ts.drop i)) (fun i => ts.length - i) 0 ⟨Nat.zero_le _, rfl⟩ (Wk.of _ hfn rfl (by simp only [slT, slX, enb, vcb, ↓evSo_some, ↓reduceIte, reduceCtorEq, seval]) (by simp only [enb, vcb, ↓evSo_some, ↓reduceIte, reduceCtorEq, seval])) ?_
  rintro i ⟨hi, he⟩
  simp only [slT, slX, vcb, ↓evSo_some, ↓reduceIte, reduceCtorEq, seval]
  refine ⟨fun h1 => ?_, fun h1 => ?_⟩
  · have hlt : i < ts.length := by have := of_decide_eq_true h1; omega
    obtain ⟨t, hd, hg, -, hat⟩ := drop_at hlt
    have htk : ts.take (i + 1) = ts.take i ++ [t] := by rw [List.take_add_one, hat]; rfl
    rw [hd, dupT] at he
    try simp only [vcb, ↓evSo_some, ↓reduceIte, reduceCtorEq, seval]
    refine vcC.loop (X := Nat) (fun j => ⟨[(0, .d (slT ts)), (1, .d (slX l)), (9, .d (.int .i64 i)), (10, .d (.int .i64 j))], [], []⟩)
      (fun j => j ≤ i ∧ ∀ q, q < j → (ts.getD q default).id ≠ t.id) (fun j => i - j) 0 ⟨Nat.zero_le _, fun q hq => absurd hq (Nat.not_lt_zero q)⟩ (Wk.of _ hfn rfl (by simp only [slT, slX, enb, vcb, ↓evSo_some, ↓reduceIte, reduceCtorEq, seval]) (by simp only [enb, vcb, ↓evSo_some, ↓reduceIte, reduceCtorEq, seval])) ?_
    rintro j ⟨hj, hne⟩
    simp only [slT, slX, vcb, ↓evSo_some, ↓reduceIte, reduceCtorEq, seval]
    refine ⟨fun h2 => ?_, fun h2 => ?_⟩
    · have hlj : j < i := by have := of_decide_eq_true h2; omega
      have hjm : ts[j]? = some (ts.getD j default) := by
        rw [List.getElem?_eq_getElem (by omega), List.getD_eq_getElem?_getD, List.getElem?_eq_getElem (show j < ts.length by omega)]; rfl
      simp only [hg, vcb, ↓evSo_some, ↓reduceIte, reduceCtorEq, seval]
      repeat' first
          | refine And.intro (fun h => ?_) (fun h => ?_)
          | refine And.intro (by first | omega | (simp only [maxLen, decide_eq_true_eq, decide_eq_false_iff_not] at *; omega)) ?_
          | (refine TR.aslO rfl rfl rfl rfl trivial (Nat.le_of_ble_eq_true rfl) ?_
             try simp only [hg, vcb, ↓evSo_some, ↓reduceIte, reduceCtorEq, seval])
          | refine And.intro trivial ?_
          | refine And.intro rfl ?_
          | fail
      · have e : may2 ts l = 8 := by
          have h' : t.id = (ts.getD j default).id := by simpa using h
          have hm : t.id ∈ seenT (ts.take i) := mem_seen.2 ⟨ts.getD j default, by
            refine List.mem_of_getElem? (i := j) ?_
            rw [List.getElem?_take, if_pos hlj]; exact hjm, h'.symm⟩
          rw [if_pos hm] at he
          rw [may2, if_pos he]
        exact RetK.pure (by simp only [rs26, rsb, vcb, ↓evSo_some, ↓reduceIte, reduceCtorEq, seval]) (by (simp only [rs26, rsb, vcb, ↓evSo_some, ↓reduceIte, reduceCtorEq, seval, enb, vcb, ↓evSo_some, ↓reduceIte, reduceCtorEq, seval]) <;> (first | rw [e]))
      · have h' : t.id ≠ (ts.getD j default).id := by simpa using h
        exact lopK.on (j + 1) ⟨hlj, fun q hq => by
          by_cases e : q = j
          · subst e; exact fun g => h' g.symm
          · exact hne q (by omega)⟩ (by omega) (Wk.of _ hfn rfl (by simp only [slT, slX, enb, vcb, ↓evSo_some, ↓reduceIte, reduceCtorEq, seval]; exact wS (by omega)) (by simp only [enb, vcb, ↓evSo_some, ↓reduceIte, reduceCtorEq, seval]))
    · have hji : j = i := by have := of_decide_eq_false h2; omega
      have hm : ¬ t.id ∈ seenT (ts.take i) := fun hm => by
        obtain ⟨u, hu, e⟩ := mem_seen.1 hm
        obtain ⟨q, hq⟩ := List.mem_iff_getElem?.1 hu
        rw [List.getElem?_take] at hq
        split at hq
        · rename_i hqi
          refine hne q (by omega) ?_
          rw [List.getD_eq_getElem?_getD, hq]; exact e
        · cases hq
      rw [if_neg hm] at he
      try simp only [slT, slX, vcb, ↓evSo_some, ↓reduceIte, reduceCtorEq, seval]
      exact lopK.on (i + 1) ⟨hlt, by rw [he, htk, seen_snoc]⟩ (by omega) (Wk.of _ hfn rfl (by simp only [slT, slX, enb, vcb, ↓evSo_some, ↓reduceIte, reduceCtorEq, seval]; exact wS (by omega)) (by simp only [enb, vcb, ↓evSo_some, ↓reduceIte, reduceCtorEq, seval]))
  have hil : i = ts.length := by have := of_decide_eq_false h1; omega
  rw [hil, List.drop_length, dupT] at he
  have m2 : may2 ts l = over3 ts l := by rw [may2, he, if_neg (by simp)]; rfl
  rw [m2]
  clear he h1 hi hil m2
  try simp only [slT, slX, vcb, ↓evSo_some, ↓reduceIte, reduceCtorEq, seval]
  refine vcC.loop (X := Nat) (fun i => ⟨[(0, .d (slT ts)), (1, .d (slX l)), (11, .d (.int .i64 i))], [], []⟩)
    (fun i => i ≤ l.length ∧ over3 ts l = over3 ts (l.drop i)) (fun i => l.length - i) 0 ⟨Nat.zero_le _, rfl⟩ (Wk.of _ hfn rfl (by simp only [slT, slX, enb, vcb, ↓evSo_some, ↓reduceIte, reduceCtorEq, seval]) (by simp only [enb, vcb, ↓evSo_some, ↓reduceIte, reduceCtorEq, seval])) ?_
  rintro i ⟨hi, he⟩
  simp only [slT, slX, vcb, ↓evSo_some, ↓reduceIte, reduceCtorEq, seval]
  refine ⟨fun h1 => ?_, fun h1 => ?_⟩
  · have hlt : i < l.length := by have := of_decide_eq_true h1; omega
    obtain ⟨x, hd, hg, hxm, -⟩ := drop_at hlt
    rw [hd] at he
    try simp only [vcb, ↓evSo_some, ↓reduceIte, reduceCtorEq, seval]
    refine vcC.loop (X := Nat) (fun j => ⟨[(0, .d (slT ts)), (1, .d (slX l)), (11, .d (.int .i64 i)), (12, .d (.int .i64 (bpsT x (ts.take j)).sum)), (13, .d (.int .i64 j))], [], []⟩)
      (fun j => j ≤ ts.length) (fun j => ts.length - j) 0 (Nat.zero_le _) (Wk.of _ hfn rfl (by simp only [slT, slX, bpsT, List.take_zero, List.filter_nil, List.map_nil, List.sum_nil, enb, vcb, ↓evSo_some, ↓reduceIte, reduceCtorEq, seval]) (by simp only [enb, vcb, ↓evSo_some, ↓reduceIte, reduceCtorEq, seval])) ?_
    rintro j hj
    simp only [slT, slX, vcb, ↓evSo_some, ↓reduceIte, reduceCtorEq, seval]
    refine ⟨fun h2 => ?_, fun h2 => ?_⟩
    · have hlj : j < ts.length := by have := of_decide_eq_true h2; omega
      obtain ⟨t, hd', hg', -, hat⟩ := drop_at hlj
      have htk : ts.take (j + 1) = ts.take j ++ [t] := by rw [List.take_add_one, hat]; rfl
      have hb := bps_bounds x (ts.take j)
      have hb2 := bps_bounds x (ts.take (j + 1))
      have hsn := bps_snoc x (ts.take j) t
      rw [← htk] at hsn
      have hlen : (ts.take (j + 1)).length ≤ 1000 := by rw [List.length_take]; omega
      have cT' := s30 t x (hp x hxm)
      simp only [vT, cT, vX, cX'] at cT'
      simp only [hg, hg', vcb, ↓evSo_some, ↓reduceIte, reduceCtorEq, seval]
      repeat' first
          | (first
              | refine TR.p hP (by first | exact cT') (by repeat' first | exact trivial | (intro _; assumption) | apply And.intro) ?_
              | refine TR.gp hP rfl (fun _ => by first | exact cT') (fun _ => by repeat' first | exact trivial | (intro _; assumption) | apply And.intro) ?_
              | refine TR.pv hP rfl (by first | exact cT') trivial (by repeat' first | exact trivial | (intro _; assumption) | apply And.intro) ?_
             try simp only [hg, hg', vcb, ↓evSo_some, ↓reduceIte, reduceCtorEq, seval])
          | refine And.intro (fun h => ?_) (fun h => ?_)
          | refine And.intro (by first | omega | (simp only [maxLen, decide_eq_true_eq, decide_eq_false_iff_not] at *; omega)) ?_
          | (refine TR.aslO rfl rfl rfl rfl trivial (Nat.le_of_ble_eq_true rfl) ?_
             try simp only [hg, hg', vcb, ↓evSo_some, ↓reduceIte, reduceCtorEq, seval])
          | refine And.intro trivial ?_
          | refine And.intro rfl ?_
          | fail
      · have h' : (t.kind == 1 && takesT t x) = true := by rw [Bool.and_comm]; exact h
        rw [if_pos h'] at hsn
        have hs : (bpsT x (ts.take (j + 1))).sum = (bpsT x (ts.take j)).sum + t.bp := by rw [hsn, List.sum_append]; simp
        have ew : IntKind.i64.wrap ((bpsT x (ts.take j)).sum + t.bp) = (bpsT x (ts.take (j + 1))).sum := by rw [← hs]; exact wI (by omega)
        exact lopK.on (j + 1) hlj (by omega) (Wk.of _ hfn rfl (by simp only [slT, slX, ew, enb, vcb, ↓evSo_some, ↓reduceIte, reduceCtorEq, seval]; exact wS (by omega)) (by simp only [enb, vcb, ↓evSo_some, ↓reduceIte, reduceCtorEq, seval]))
      · have h' : ¬ (t.kind == 1 && takesT t x) = true := by rw [Bool.and_comm, h]; simp
        rw [if_neg h', List.append_nil] at hsn
        exact lopK.on (j + 1) hlj (by omega) (Wk.of _ hfn rfl (by simp only [slT, slX, hsn, enb, vcb, ↓evSo_some, ↓reduceIte, reduceCtorEq, seval]; exact wS (by omega)) (by simp only [enb, vcb, ↓evSo_some, ↓reduceIte, reduceCtorEq, seval]))
    · have hjl : j = ts.length := by have := of_decide_eq_false h2; omega
      rw [hjl, List.take_length]
      try simp only [vcb, ↓evSo_some, ↓reduceIte, reduceCtorEq, seval]
      repeat' first
          | refine And.intro (fun h => ?_) (fun h => ?_)
          | refine And.intro (by first | omega | (simp only [maxLen, decide_eq_true_eq, decide_eq_false_iff_not] at *; omega)) ?_
          | (refine TR.aslO rfl rfl rfl rfl trivial (Nat.le_of_ble_eq_true rfl) ?_
             try simp only [vcb, ↓evSo_some, ↓reduceIte, reduceCtorEq, seval])
          | refine And.intro trivial ?_
          | refine And.intro rfl ?_
          | fail
      · have e : over3 ts l = 13 := by
          have h' : overT ts x = true := h
          rw [he]; simp [over3, h']
        exact RetK.pure (by simp only [rs26, rsb, vcb, ↓evSo_some, ↓reduceIte, reduceCtorEq, seval]) (by (simp only [rs26, rsb, vcb, ↓evSo_some, ↓reduceIte, reduceCtorEq, seval, enb, vcb, ↓evSo_some, ↓reduceIte, reduceCtorEq, seval]) <;> (first | rw [e]))
      · have e : over3 ts (x :: l.drop (i + 1)) = over3 ts (l.drop (i + 1)) := by
          have h' : overT ts x = false := h
          simp [over3, h']
        exact lopK.on (i + 1) ⟨hlt, by rw [he, e]⟩ (by omega) (Wk.of _ hfn rfl (by simp only [slT, slX, enb, vcb, ↓evSo_some, ↓reduceIte, reduceCtorEq, seval]; exact wS (by omega)) (by simp only [enb, vcb, ↓evSo_some, ↓reduceIte, reduceCtorEq, seval]))
  have hil : i = l.length := by have := of_decide_eq_false h1; omega
  rw [hil, List.drop_length] at he
  have m3 : over3 ts l = 0 := by rw [he]; simp [over3]
  rw [m3]
  try simp only [slT, slX, vcb, ↓evSo_some, ↓reduceIte, reduceCtorEq, seval]
  exact RetK.pure (by simp only [rs26, rsb, vcb, ↓evSo_some, ↓reduceIte, reduceCtorEq, seval]) (by simp only [rs26, rsb, vcb, ↓evSo_some, ↓reduceIte, reduceCtorEq, seval, enb, vcb, ↓evSo_some, ↓reduceIte, reduceCtorEq, seval])
end Go.Proofs.Ytgpckelpmincmaa
end
section
set_option linter.unusedSimpArgs false
set_option linter.unusedVariables false
namespace Go.Proofs.Ytgpckelpmincmaa
set_option linter.unusedSimpArgs false
set_option linter.unusedVariables false
open Go.Bx
set_option maxRecDepth 10000
def cC (p : Int × Int) : List D := [.int .i64 p.1, .int .i64 p.2]
abbrev Sw := List Int × List (List (Int × Int))
def swpS (id : Int) (b : List Int) (i : Nat) (s : Sw) : Sw :=
  (s.1.set i (s.1.getD i 0 - min (b.getD i 0) (s.1.getD i 0)), if 0 < min (b.getD i 0) (s.1.getD i 0) then s.2.set i (s.2.getD i [] ++ [(id, min (b.getD i 0) (s.1.getD i 0))]) else s.2)
def swpR (id : Int) (b : List Int) : Nat → Nat → Sw → Sw
  | 0, _, s => s
  | n + 1, i, s => swpR id b n (i + 1) (swpS id b i s)
def swe (id : Int) (b : List Int) (s : Sw) : Sw := swpR id b b.length 0 s
structure SwI (l : List Ls) (k i : Nat) (s : Sw) : Prop where
  la : s.1.length = l.length
  lg : s.2.length = l.length
  am : ∀ j, 0 ≤ s.1.getD j 0 ∧ s.1.getD j 0 ≤ (l.getD j default).amt
  gl : ∀ j g, s.2[j]? = some g → g.length ≤ k + (if j < i then 1 else 0)
theorem SwI.step {l : List Ls} {k i : Nat} {s : Sw} (h : SwI l k i s) (id : Int) {b : List Int} (hi : i < l.length) (hb : 0 ≤ b.getD i 0) : SwI l k (i + 1) (swpS id b i s) := by
  have ha := h.am i
  have hla := h.la
  have hlg := h.lg
  refine ⟨by simp [swpS, h.la], ?_, fun j => ?_, fun j g hg => ?_⟩
  · unfold swpS; dsimp only; split <;> simp [h.lg]
  · unfold swpS; dsimp only
    by_cases e : i = j
    · subst e
      rw [List.getD_eq_getElem?_getD, List.getElem?_set_self (by omega), Option.getD_some]; omega
    · rw [List.getD_eq_getElem?_getD, List.getElem?_set_ne e, ← List.getD_eq_getElem?_getD]; exact h.am j
  · unfold swpS at hg; dsimp only at hg
    split at hg
    · by_cases e : i = j
      · subst e
        rw [List.getElem?_set_self (by omega)] at hg
        cases hg
        have h1 : s.2[i]? = some s.2[i] := List.getElem?_eq_getElem (by omega)
        have h2 := h.gl i _ h1
        rw [if_neg (Nat.lt_irrefl i)] at h2
        rw [List.getD_eq_getElem?_getD, h1, Option.getD_some, List.length_append, List.length_singleton, if_pos (Nat.lt_succ_self i)]; omega
      · rw [List.getElem?_set_ne e] at hg
        have := h.gl j g hg
        split at this
        · rw [if_pos (by omega)]; exact this
        · omega
    · have := h.gl j g hg
      split at this
      · rw [if_pos (by omega)]; exact this
      · omega
theorem SwI.next {l : List Ls} {k : Nat} {s : Sw} (h : SwI l k l.length s) : SwI l (k + 1) 0 s := by
  refine ⟨h.la, h.lg, h.am, fun j g hg => ?_⟩
  have h1 := h.gl j g hg
  have h2 : j < s.2.length := (List.getElem?_eq_some_iff.1 hg).1
  have := h.lg
  rw [if_pos (by omega)] at h1
  omega
theorem swpR_ok {l : List Ls} {k : Nat} (id : Int) {b : List Int} (hb : ∀ i, 0 ≤ b.getD i 0) : ∀ (n i : Nat) (s : Sw), i + n ≤ l.length → SwI l k i s → SwI l k (i + n) (swpR id b n i s)
  | 0, _, _, _, h => h
  | n + 1, i, s, hn, h => by
    rw [swpR, show i + (n + 1) = i + 1 + n by omega]
    exact swpR_ok id hb n (i + 1) _ (by omega) (h.step id (by omega) (hb i))
theorem swp_ok {l : List Ls} {k : Nat} {s : Sw} (id : Int) {b : List Int} (hb : ∀ i, 0 ≤ b.getD i 0) (hl : b.length = l.length) (h : SwI l k 0 s) : SwI l (k + 1) 0 (swe id b s) := by
  have := swpR_ok id hb b.length 0 s (by omega) h
  rw [Nat.zero_add, hl] at this
  rw [swe, hl]
  exact this.next
theorem with_get {l : List Ls} {a : List Int} (h : a.length = l.length) (i : Nat) : (withX l a).getD i default = { l.getD i default with amt := a.getD i 0 } := by
  unfold withX
  by_cases hi : i < l.length
  · simp only [List.getD_eq_getElem?_getD, List.getElem?_zipWith, List.getElem?_eq_getElem hi, List.getElem?_eq_getElem (show i < a.length by omega), Option.getD_some]
  · simp only [List.getD_eq_getElem?_getD, List.getElem?_zipWith, List.getElem?_eq_none (show l.length ≤ i by omega), List.getElem?_eq_none (show a.length ≤ i by omega), Option.getD_none]
    rfl
theorem with_len {l : List Ls} {a : List Int} (h : a.length = l.length) : (withX l a).length = l.length := by simp [withX, h]
theorem with_right {l : List Ls} {a : List Int} (h : a.length = l.length) (hx : ∀ x, x ∈ l → lossX x = true) (ha : ∀ j, 0 ≤ a.getD j 0 ∧ a.getD j 0 ≤ (l.getD j default).amt) : ∀ x, x ∈ withX l a → lossX x = true := by
  intro x hm
  obtain ⟨i, hi⟩ := List.mem_iff_getElem?.1 hm
  have hil : i < l.length := by have := (List.getElem?_eq_some_iff.1 hi).1; rw [with_len h] at this; exact this
  have e := with_get h i
  rw [List.getD_eq_getElem?_getD, hi, Option.getD_some] at e
  have hl := lossX_iff.1 (hx _ (List.getElem_mem hil))
  have hg : l.getD i default = l[i] := by rw [List.getD_eq_getElem?_getD, List.getElem?_eq_getElem hil]; rfl
  have hh := ha i
  rw [hg] at e hh
  rw [e, lossX_iff]
  refine ⟨hl.1, hl.2.1, hl.2.2.1, hl.2.2.2.1, ?_⟩
  simp only; omega
def twr (l : List Ls) (ts : List Tr) : List Int → Sw → List Ls → Int → Sw
  | [], s, _, _ => s
  | k :: r, s, rd, kd =>
    twr l ts r (swe (ts.getD k.toNat default).id (bearsA (ts.getD k.toNat default) (if (ts.getD k.toNat default).kind ≠ kd then withX l s.1 else rd)) s) (if (ts.getD k.toNat default).kind ≠ kd then withX l s.1 else rd) (ts.getD k.toNat default).kind
def sw0 (l : List Ls) : Sw := (l.map (·.amt), List.replicate l.length [])
def towerT (ts : List Tr) (l : List Ls) : Sw := twr l ts (orderT ts) (sw0 l) l 1
def ofT (ts : List Tr) (l : List Ls) : List (List (Int × Int)) × List Int × Int := if mayT ts l ≠ 0 then ([], [], mayT ts l) else ((towerT ts l).2, (towerT ts l).1, 0)
theorem sw0_ok (l : List Ls) (hx : ∀ x, x ∈ l → lossX x = true) : SwI l 0 0 (sw0 l) := by
  refine ⟨by simp [sw0], by simp [sw0], fun j => ?_, fun j g hg => ?_⟩
  · simp only [sw0, List.getD_eq_getElem?_getD, List.getElem?_map]
    cases h : l[j]? with
    | none => simp; decide
    | some x =>
      have := lossX_iff.1 (hx x (List.mem_of_getElem? h))
      simp only [Option.map_some, Option.getD_some]; omega
  · simp only [sw0, List.getElem?_replicate] at hg
    split at hg
    · cases hg; simp
    · cases hg
theorem with_self (l : List Ls) : withX l (l.map (·.amt)) = l := by
  induction l with
  | nil => rfl
  | cons x r ih => simp only [withX, List.map_cons, List.zipWith_cons_cons] at ih ⊢; rw [ih]
theorem may_ok {ts : List Tr} {l : List Ls} (h : mayT ts l = 0) : (∀ t, t ∈ ts → rightT t = true) ∧ (∀ x, x ∈ l → lossX x = true) ∧ ts.length ≤ 100 ∧ l.length ≤ 2000 ∧ dupT [] ts = false ∧ l.any (overT ts) = false := by
  unfold mayT at h
  split at h
  · cases h
  rename_i h1
  split at h
  · cases h
  rename_i h2
  split at h
  · cases h
  rename_i h3
  split at h
  · cases h
  rename_i h4
  simp only [Bool.or_eq_true, not_or, Bool.not_eq_true, List.any_eq_false, Bool.not_eq_false'] at h1
  refine ⟨fun t ht => ?_, fun x hx => ?_, by omega, by omega, by simpa using h3, by simpa using h4⟩
  · have := h1.1 t ht; simpa using this
  · have := h1.2 x hx; simpa using this
theorem order_mem (ts : List Tr) : ∀ k, k ∈ orderT ts → 0 ≤ k ∧ k < (ts.length : Int) := by
  intro k hk
  unfold orderT at hk
  obtain ⟨p, hp, rfl⟩ := List.mem_map.1 hk
  have h1 := (sorted_pls (plsT 0 ts)).2.mem_iff.1 hp
  have : ∀ (ts : List Tr) (i : Nat) (p : Pl), p ∈ plsT i ts → (i : Int) ≤ p.i ∧ p.i < ((i + ts.length : Nat) : Int) := by
    intro ts
    induction ts with
    | nil => intro i p h; simp [plsT] at h
    | cons t r ih =>
      intro i p h
      simp only [plsT, List.mem_append] at h
      rcases h with h | h
      · unfold plT at h
        split at h
        · simp at h; subst h; simp; omega
        · split at h
          · simp at h; subst h; simp; omega
          · simp at h
      · have := ih (i + 1) p h
        simp only [List.length_cons]; omega
  have := this ts 0 p h1
  simpa using this
end Go.Proofs.Ytgpckelpmincmaa
end
section
set_option linter.unusedSimpArgs false
set_option linter.unusedVariables false
namespace Go.Proofs.Ytgpckelpmincmaa
set_option linter.unusedSimpArgs false
set_option linter.unusedVariables false
open Go.Bx
set_option maxRecDepth 10000
theorem VsLe.nest0 {dx : Int × Int} {K sz : Nat} : ∀ (n i : Nat), VsLe (catR n (fun _ => [.sl true 0 0 fun _ => []])) (nestC dx cC K 0 sz i (List.replicate n []))
  | 0, _ => trivial
  | n + 1, i => by
    simp only [catR, List.replicate_succ, nestC, List.map_cons, List.map_nil, List.cons_append, List.nil_append, List.length_nil, Nat.le_refl, if_true]
    exact ⟨VLe.sl rfl (fun h => absurd h (Nat.lt_irrefl 0)) id (fun q hq => absurd hq (Nat.not_lt_zero q)), VsLe.nest0 n (i + 1)⟩
theorem OLe.nest0 {dx : Int × Int} {K sz e' n : Nat} : OLe (.row e' 1 n (fun _ => [.sl true 0 0 fun _ => []])) (.lit e' 1 n (nestC dx cC K 0 sz 0 (List.replicate n []))) :=
  fun β E w k h => OLe.lits (VsLe.nest0 n 0) β E w k (OLe.rowLit rfl β E w k h)
abbrev nCC (G : List (List (Int × Int))) : List V := nestC (0, 0) cC 5000 0 2 0 G
abbrev nOC (G : List (List (Int × Int))) : List (Nat × Own) := nestO (0, 0) cC 5000 0 37 2 0 G
theorem nC_at {G : List (List (Int × Int))} {i : Nat} {g : List (Int × Int)} (h : G[i]? = some g) (hg : 0 < g.length) : own? (nOC G) (5000 + i) = some (.row 37 2 g.length (fun j => cC (g.getD j (0, 0)))) := by
  rw [nOC, nestO_own, if_pos (by omega), show 5000 + i - (5000 + 0) = i by omega, h]
  simp only; rw [if_pos hg]
theorem own?_delC {G : List (List (Int × Int))} (k k1 : Nat) : own? (delO (nOC G) k) k1 = if k1 = k then none else own? (nOC G) k1 := own?_delO nestO_nodup k k1
theorem own?_delC1 {G : List (List (Int × Int))} {a : Nat} {o : Own} (k k1 : Nat) : own? (delO (setO (nOC G) a o) k) k1 = if k1 = k then none else own? (setO (nOC G) a o) k1 := own?_delO (nodup_setO nestO_nodup) k k1
theorem own?_delC2 {G : List (List (Int × Int))} {a a2 : Nat} {o o2 : Own} (k k1 : Nat) : own? (delO (setO (setO (nOC G) a o) a2 o2) k) k1 = if k1 = k then none else own? (setO (setO (nOC G) a o) a2 o2) k1 := own?_delO (nodup_setO (nodup_setO nestO_nodup)) k k1
def ofE (ts : List Tr) (l rd : List Ls) (kd : Int) (k : Nat) : List (Nat × V) :=
  [(0, .d (slT ts)), (1, .d (slX l)), (8, .osl 900), (9, .osl 30), (10, .d (slX rd)), (11, .d (.int .i64 kd)), (34, .d (slK .i64 (orderT ts))), (35, .d (.int .i64 (orderT ts).length)), (36, .d (.int .i64 k))]
def ofSt (ts : List Tr) (l rd : List Ls) (kd : Int) (k : Nat) (s : Sw) (ex : List (Nat × V)) (ox : List (Nat × Own)) (nx : List Nat) : St :=
  ⟨ofE ts l rd kd k ++ ex, (30, .lit 35 1 s.2.length (nCC s.2)) :: (([(900, rowX (withX l s.1))] ++ ox) ++ nOC s.2), ([30, 900] ++ nx) ++ nmN 5000 s.2.length⟩
theorem Wk.of0 {c : Ctx} {st : St} {ts : List Tr} {l rd : List Ls} {kd : Int} {k : Nat} {s : Sw} {ex : List (Nat × V)} {ox : List (Nat × Own)} {nx : List Nat} (hfn : c.fn = [])
    (hB : wkB [] ⟨ofE ts l rd kd k ++ ex, (30, .lit 35 1 0 []) :: ([(900, rowX (withX l s.1))] ++ ox), [30, 900] ++ nx⟩ = true) (hN : nx.all (fun k => decide (k < 5000)) = true)
    (he : EnvLe (renE (Go.Bx.sw 0 0) st.env) (ofE ts l rd kd k ++ ex)) (hA : OwnLeS (Go.Bx.sw 0 0) st.own ([(900, rowX (withX l s.1))] ++ ox))
    (hl : own? st.own 30 = some (.lit 35 1 s.2.length (nCC s.2))) (hi : ∀ j, own? st.own (5000 + j) = own? (nOC s.2) (5000 + j)) : Wk c st (ofSt ts l rd kd k s ex ox nx) :=
  Wk.nestKeep (K := 5000) 0 0 [] hfn (by omega) (by omega) (by omega) (by omega) (by simp) (by simp) hB (by simpa using hN) he hA hl hi
theorem Wk.ofI {c : Ctx} {st : St} {ts : List Tr} {l : List Ls} (hfn : c.fn = []) (he : EnvLe (renE (Go.Bx.sw 0 0) st.env) (ofE ts l l 1 0)) (hA : OwnLeS (Go.Bx.sw 0 0) st.own [(900, rowX l)])
    (hl : own? st.own 30 = some (.row 35 1 l.length (fun _ => [.sl true 0 0 fun _ => []]))) : Wk c st (ofSt ts l l 1 0 (sw0 l) [] [] []) := by
  have h := Wk.nest (c := c) (st := st) (dx := ((0, 0) : Int × Int)) (cells := cC) (K := 5000) (K' := 30) (τ := 0) (e' := 35) (e := 37) (sz := 2) (G := List.replicate l.length []) 0 0 [] hfn (by simp) (by simp) (env := ofE ts l l 1 0) (A := [(900, rowX l)]) (N := [30, 900]) rfl rfl he hA
    ⟨_, hl, by simp only [Own.ren, List.length_replicate]; exact OLe.nest0⟩ (fun i g hg1 hg2 => by
      rw [List.getElem?_replicate] at hg1
      split at hg1
      · cases hg1; simp at hg2
      · cases hg1)
  unfold ofSt
  simp only [sw0, with_self, List.append_nil]
  exact h
theorem ne_lo' {a i : Nat} (h : a < 5000) : (a = 5000 + i) = False := eq_false (by omega)
end Go.Proofs.Ytgpckelpmincmaa
end
section
set_option linter.unusedSimpArgs false
set_option linter.unusedVariables false
namespace Go.Proofs.Ytgpckelpmincmaa
set_option linter.unusedSimpArgs false
set_option linter.unusedVariables false
open Go.Bx
set_option maxRecDepth 10000
def twrT (l : List Ls) : List Tr → Sw → List Ls → Int → Sw
  | [], s, _, _ => s
  | t :: r, s, rd, kd => twrT l r (swe t.id (bearsA t (if t.kind ≠ kd then withX l s.1 else rd)) s) (if t.kind ≠ kd then withX l s.1 else rd) t.kind
theorem twr_eq (l : List Ls) (ts : List Tr) : ∀ (o : List Int) (s : Sw) (rd : List Ls) (kd : Int), twr l ts o s rd kd = twrT l (o.map fun k => ts.getD k.toNat default) s rd kd
  | [], _, _, _ => rfl
  | k :: r, s, rd, kd => by rw [twr, List.map_cons, twrT, twr_eq l ts r]
def ordL (ts : List Tr) : List Tr := (ordP ts).map fun p => ts.getD p.i.toNat default
theorem towerT_eq (ts : List Tr) (l : List Ls) : towerT ts l = twrT l (ordL ts) (sw0 l) l 1 := by
  rw [towerT, twr_eq, orderT_eq, List.map_map]; rfl
theorem plsT_at {ts : List Tr} {p : Pl} (h : p ∈ plsT 0 ts) : ts.getD p.i.toNat default ∈ ts ∧ p.k = (ts.getD p.i.toNat default).kind ∧ p ∈ plT (ts.getD p.i.toNat default) p.i.toNat ∧ p.i = (p.i.toNat : Int) ∧ p.i.toNat < ts.length := by
  obtain ⟨j, t, h1, h2⟩ := plsT_mem h
  have h3 := plT_mem h2
  rw [Nat.zero_add] at h3 h2
  have h4 : p.i.toNat = j := by rw [h3.2.1]; simp
  have h5 : ts.getD j default = t := by rw [List.getD_eq_getElem?_getD, h1]; rfl
  rw [h4, h5]
  exact ⟨List.mem_of_getElem? h1, h3.1, h2, h3.2.1, (List.getElem?_eq_some_iff.1 h1).1⟩
theorem ordP_at {ts : List Tr} {p : Pl} (h : p ∈ ordP ts) : ts.getD p.i.toNat default ∈ ts ∧ p.k = (ts.getD p.i.toNat default).kind ∧ p ∈ plT (ts.getD p.i.toNat default) p.i.toNat ∧ p.i = (p.i.toNat : Int) ∧ p.i.toNat < ts.length := plsT_at ((ordP_ok ts).2.mem_iff.1 h)
theorem ordL_mem {ts : List Tr} {t : Tr} (h : t ∈ ordL ts) : t ∈ ts := by
  obtain ⟨p, hp, rfl⟩ := List.mem_map.1 h
  exact (ordP_at hp).1
theorem ordL_kinds (ts : List Tr) : (ordL ts).Pairwise (fun a b => a.kind ≤ b.kind) := by
  unfold ordL
  rw [List.pairwise_map]
  refine (ordP_ok ts).1.imp_of_mem fun {a b} ha hb hab => ?_
  rw [← (ordP_at ha).2.1, ← (ordP_at hb).2.1]
  rw [lessP_not] at hab; omega
theorem plsT_back (all : List Tr) : ∀ (us : List Tr) (i : Nat), all.drop i = us → (∀ t, t ∈ us → t.kind = 1 ∨ t.kind = 2 ∨ t.kind = 3) → (plsT i us).map (fun p => all.getD p.i.toNat default) = us
  | [], _, _, _ => rfl
  | t :: r, i, hd, hk => by
    have hlt : i < all.length := by
      by_cases h : i < all.length
      · exact h
      · rw [List.drop_eq_nil_of_le (by omega)] at hd; cases hd
    obtain ⟨x, hd', hg, -, -⟩ := drop_at hlt
    rw [hd] at hd'
    cases hd'
    have ih := plsT_back all _ (i + 1) rfl (fun u hu => hk u (List.mem_cons_of_mem _ hu))
    have h1 : ∃ a, plT t i = [⟨t.kind, a, i⟩] := by
      unfold plT
      by_cases e : t.kind = 1
      · exact ⟨0, by rw [if_pos e]⟩
      · exact ⟨t.att, by rw [if_neg e, if_pos (by have := hk t List.mem_cons_self; omega)]⟩
    obtain ⟨a, ha⟩ := h1
    rw [plsT, List.map_append, ih, ha]
    simp only [List.map_cons, List.map_nil, Int.toNat_natCast, hg, List.cons_append, List.nil_append]
theorem ordL_perm {ts : List Tr} (hk : ∀ t, t ∈ ts → t.kind = 1 ∨ t.kind = 2 ∨ t.kind = 3) : (ordL ts).Perm ts := by
  have h := (ordP_ok ts).2.map (fun p => ts.getD p.i.toNat default)
  rwa [plsT_back ts ts 0 rfl hk] at h
theorem right_kind {t : Tr} (h : rightT t = true) : t.kind = 1 ∨ t.kind = 2 ∨ t.kind = 3 := by
  unfold rightT at h
  by_cases h1 : t.kind = 1
  · exact .inl h1
  · by_cases h2 : t.kind = 2 ∨ t.kind = 3
    · exact .inr h2
    · rw [if_neg h1, if_neg h2] at h; simp at h
theorem getD_set {α : Type} {l : List α} {i j : Nat} {v d : α} (hi : i < l.length) : (l.set i v).getD j d = if i = j then v else l.getD j d := by
  by_cases e : i = j
  · subst e; rw [if_pos rfl, List.getD_eq_getElem?_getD, List.getElem?_set_self hi]; rfl
  · rw [if_neg e, List.getD_eq_getElem?_getD, List.getElem?_set_ne e, ← List.getD_eq_getElem?_getD]
theorem swpS_len (id : Int) (b : List Int) (i : Nat) (s : Sw) : (swpS id b i s).1.length = s.1.length ∧ (swpS id b i s).2.length = s.2.length := by
  unfold swpS; dsimp only
  refine ⟨by simp, ?_⟩
  split <;> simp
theorem swpR_get (id : Int) (b : List Int) : ∀ (n i : Nat) (s : Sw), i + n ≤ s.1.length → s.1.length = s.2.length → (swpR id b n i s).1.length = s.1.length ∧ (swpR id b n i s).2.length = s.2.length ∧
    ∀ j, (swpR id b n i s).1.getD j 0 = (if i ≤ j ∧ j < i + n then s.1.getD j 0 - min (b.getD j 0) (s.1.getD j 0) else s.1.getD j 0) ∧
      (swpR id b n i s).2.getD j [] = (if (i ≤ j ∧ j < i + n) ∧ 0 < min (b.getD j 0) (s.1.getD j 0) then s.2.getD j [] ++ [(id, min (b.getD j 0) (s.1.getD j 0))] else s.2.getD j [])
  | 0, i, s, _, _ => ⟨rfl, rfl, fun j => ⟨by rw [if_neg (by omega)]; rfl, by rw [if_neg (by omega)]; rfl⟩⟩
  | n + 1, i, s, hn, hl => by
    obtain ⟨l1, l2⟩ := swpS_len id b i s
    obtain ⟨g1, g2, g3⟩ := swpR_get id b n (i + 1) (swpS id b i s) (by omega) (by omega)
    rw [swpR]
    refine ⟨by omega, by omega, fun j => ?_⟩
    obtain ⟨h1, h2⟩ := g3 j
    rw [h1, h2]
    have e1 : (swpS id b i s).1.getD j 0 = if i = j then s.1.getD i 0 - min (b.getD i 0) (s.1.getD i 0) else s.1.getD j 0 := getD_set (by omega)
    have e2 : (swpS id b i s).2.getD j [] = if i = j ∧ 0 < min (b.getD i 0) (s.1.getD i 0) then s.2.getD i [] ++ [(id, min (b.getD i 0) (s.1.getD i 0))] else s.2.getD j [] := by
      unfold swpS; dsimp only
      by_cases hc : 0 < min (b.getD i 0) (s.1.getD i 0)
      · rw [if_pos hc, getD_set (by omega)]
        by_cases e : i = j
        · rw [if_pos e, if_pos ⟨e, hc⟩]
        · rw [if_neg e, if_neg (fun h => e h.1)]
      · rw [if_neg hc, if_neg (fun h => hc h.2)]
    rw [e1, e2]
    by_cases e : i = j
    · subst e
      have hr : ¬ (i + 1 ≤ i ∧ i < i + 1 + n) := by omega
      have hr2 : i ≤ i ∧ i < i + (n + 1) := by omega
      simp only [hr, hr2, false_and, if_false, true_and, if_true, and_self]
    · simp only [e, false_and, if_false]
      by_cases hr : i + 1 ≤ j ∧ j < i + 1 + n
      · have hr2 : i ≤ j ∧ j < i + (n + 1) := by omega
        rw [if_pos hr, if_pos hr2]
        refine ⟨rfl, ?_⟩
        by_cases hc : 0 < min (b.getD j 0) (s.1.getD j 0)
        · rw [if_pos ⟨hr, hc⟩, if_pos ⟨hr2, hc⟩]
        · rw [if_neg (fun h => hc h.2), if_neg (fun h => hc h.2)]
      · have hr2 : ¬ (i ≤ j ∧ j < i + (n + 1)) := by omega
        rw [if_neg hr, if_neg hr2, if_neg (fun h => hr h.1), if_neg (fun h => hr2 h.1)]
        exact ⟨rfl, rfl⟩
theorem swe_get {l : List Ls} {s : Sw} (id : Int) {b : List Int} (hb : b.length = l.length) (h1 : s.1.length = l.length) (h2 : s.2.length = l.length) : ∀ j, j < l.length →
    (swe id b s).1.getD j 0 = s.1.getD j 0 - min (b.getD j 0) (s.1.getD j 0) ∧
    (swe id b s).2.getD j [] = (if 0 < min (b.getD j 0) (s.1.getD j 0) then s.2.getD j [] ++ [(id, min (b.getD j 0) (s.1.getD j 0))] else s.2.getD j []) := by
  intro j hj
  obtain ⟨-, -, h⟩ := swpR_get id b b.length 0 s (by omega) (by omega)
  obtain ⟨g1, g2⟩ := h j
  rw [swe, g1, g2, if_pos (by omega)]
  refine ⟨rfl, ?_⟩
  by_cases hc : 0 < min (b.getD j 0) (s.1.getD j 0)
  · rw [if_pos hc, if_pos ⟨by omega, hc⟩]
  · rw [if_neg hc, if_neg (fun h => hc h.2)]
theorem takes_with (t : Tr) (x : Ls) (a : Int) (h1 : lossX x = true) (h2 : lossX { x with amt := a } = true) : takesT t { x with amt := a } = takesT t x := by
  unfold takesT; rw [h1, h2]
theorem takes_withX {t : Tr} {l : List Ls} {a : List Int} (hX : ∀ x, x ∈ l → lossX x = true) (hl : a.length = l.length) (ha : ∀ j, 0 ≤ a.getD j 0 ∧ a.getD j 0 ≤ (l.getD j default).amt) {j : Nat} (hj : j < l.length) :
    takesT t ((withX l a).getD j default) = takesT t (l.getD j default) := by
  have hm : l.getD j default ∈ l := by rw [List.getD_eq_getElem?_getD, List.getElem?_eq_getElem hj]; exact List.getElem_mem hj
  have hm2 : (withX l a).getD j default ∈ withX l a := by
    have : j < (withX l a).length := by rw [with_len hl]; exact hj
    rw [List.getD_eq_getElem?_getD, List.getElem?_eq_getElem this]; exact List.getElem_mem this
  have h2 := with_right hl hX ha _ hm2
  rw [with_get hl] at h2 ⊢
  exact takes_with t _ _ (hX _ hm) h2
def RdOk (l rd : List Ls) : Prop := ∃ a : List Int, a.length = l.length ∧ (∀ j, 0 ≤ a.getD j 0 ∧ a.getD j 0 ≤ (l.getD j default).amt) ∧ rd = withX l a
theorem RdOk.self {l : List Ls} (hX : ∀ x, x ∈ l → lossX x = true) : RdOk l l := by
  have h := sw0_ok l hX
  exact ⟨(sw0 l).1, by simp [sw0], h.am, (with_self l).symm⟩
theorem RdOk.next {l : List Ls} {k i : Nat} {s : Sw} (h : SwI l k i s) : RdOk l (withX l s.1) := ⟨s.1, h.la, h.am, rfl⟩
theorem rd_bears {l rd : List Ls} (hX : ∀ x, x ∈ l → lossX x = true) (hl : l.length ≤ 2000) (h : RdOk l rd) {t : Tr} (ht : rightT t = true) :
    (bearsA t rd).length = l.length ∧ (∀ i, 0 ≤ (bearsA t rd).getD i 0) ∧ (∀ i, i < l.length → takesT t (l.getD i default) = false → (bearsA t rd).getD i 0 = 0) ∧ (t.kind ≠ 1 → (bearsA t rd).sum ≤ roomT t) := by
  obtain ⟨a, h1, h2, rfl⟩ := h
  have hlen := with_len h1
  obtain ⟨g1, g2⟩ := bears_ok t (withX l a) ht (by omega) (with_right h1 hX h2)
  exact ⟨by rw [g1.len, hlen], g1.nn, fun i hi hh => g1.take i (by omega) (by rw [takes_withX hX h1 h2 hi]; exact hh), g2⟩
end Go.Proofs.Ytgpckelpmincmaa
end
