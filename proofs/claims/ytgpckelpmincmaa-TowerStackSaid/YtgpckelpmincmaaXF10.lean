import Derived.Test.YtgpckelpmincmaaXF9
section
set_option linter.unusedSimpArgs false
set_option linter.unusedVariables false
namespace Go.Proofs.Ytgpckelpmincmaa
set_option linter.unusedSimpArgs false
set_option linter.unusedVariables false
open Go.Bx
set_option maxRecDepth 10000
def dupT : List Int → List Tr → Bool
  | _, [] => false
  | seen, t :: r => if t.id ∈ seen then true else dupT (t.id :: seen) r
set_option maxHeartbeats 1000000 in
theorem sTwice (ts : List Tr) (hl : ts.length ≤ 1000) : Ctr Try.prog 44 [.d (slT ts)] [] (.d (.bool (dupT [] ts))) [] [] := by
  refine ctr_pure Try.func44 ok44 rfl cc44 cr44 Try.ntmps44 (by simp) rfl rfl ?_; intro c hP hfn; simp only [kc44, slT, vcb, ↓evSo_some, ↓reduceIte, reduceCtorEq, seval]
  refine vcC.loop (X := Nat × List Int) (fun x => ⟨[(3, .osl 6), (7, .d (slT ts)), (8, .d (.int .i64 ts.length)), (9, .d (.int .i64 x.1))], [(6, .mp (.bool false) (fun n => .bool (decide (n ∈ x.2))))], [6]⟩)
    (fun x => x.1 ≤ ts.length ∧ dupT [] ts = dupT x.2 (ts.drop x.1)) (fun x => ts.length - x.1) (0, []) ⟨Nat.zero_le _, rfl⟩ (Wk.of _ hfn rfl (by simp only [slT, enb, vcb, ↓evSo_some, ↓reduceIte, reduceCtorEq, seval]) (by simp only [List.not_mem_nil, enb, vcb, ↓evSo_some, ↓reduceIte, reduceCtorEq, seval])) ?_
  rintro ⟨k, s⟩ ⟨hk, he⟩
  simp only at hk he
  simp only [slT, vcb, ↓evSo_some, ↓reduceIte, reduceCtorEq, seval]
  refine ⟨fun h1 => ?_, fun h1 => ?_⟩
  · have hlt : k < ts.length := by have := of_decide_eq_true h1; omega
    obtain ⟨t, hd, hg, -, -⟩ := drop_at hlt
    rw [hd, dupT] at he
    simp only [hg, vcb, ↓evSo_some, ↓reduceIte, reduceCtorEq, seval]
    repeat' first
        | refine And.intro (fun h => ?_) (fun h => ?_)
        | refine And.intro (by first | omega | (simp only [maxLen, decide_eq_true_eq, decide_eq_false_iff_not] at *; omega)) ?_
        | (refine TR.aslO rfl rfl rfl rfl trivial (Nat.le_of_ble_eq_true rfl) ?_
           try simp only [hg, vcb, ↓evSo_some, ↓reduceIte, reduceCtorEq, seval])
        | refine And.intro trivial ?_
        | refine And.intro rfl ?_
        | fail
    · have h' : t.id ∈ s := by simpa using h
      exact RetK.pure (by simp only [rs44, rsb, vcb, ↓evSo_some, ↓reduceIte, reduceCtorEq, seval]) (by (simp only [rs44, rsb, vcb, ↓evSo_some, ↓reduceIte, reduceCtorEq, seval, enb, vcb, ↓evSo_some, ↓reduceIte, reduceCtorEq, seval]) <;> (first | rw [he, if_pos h']))
    · have h' : ¬ t.id ∈ s := by simpa using h
      rw [if_neg h'] at he
      refine lopK.on (k + 1, t.id :: s) ⟨hlt, he⟩ (by simp only; omega) (Wk.of _ hfn rfl (by simp only [slT, enb, vcb, ↓evSo_some, ↓reduceIte, reduceCtorEq, seval]; exact wS (by omega)) ?_)
      simp only [enb, vcb, ↓evSo_some, ↓reduceIte, reduceCtorEq, seval]
      refine OLe.eq ?_
      congr 1
      funext n
      by_cases e : n = t.id <;> simp [e]
  · have hkl : k = ts.length := by have := of_decide_eq_false h1; omega
    rw [hkl, List.drop_length, dupT] at he
    exact RetK.pure (by simp only [rs44, rsb, vcb, ↓evSo_some, ↓reduceIte, reduceCtorEq, seval]) (by (simp only [rs44, rsb, vcb, ↓evSo_some, ↓reduceIte, reduceCtorEq, seval, enb, vcb, ↓evSo_some, ↓reduceIte, reduceCtorEq, seval]) <;> (first | rw [he]))
def bpsT (x : Ls) (ts : List Tr) : List Int := (ts.filter fun t => t.kind == 1 && takesT t x).map (·.bp)
theorem bps_snoc (x : Ls) (ts : List Tr) (t : Tr) : bpsT x (ts ++ [t]) = bpsT x ts ++ (if (t.kind == 1 && takesT t x) = true then [t.bp] else []) := by
  simp only [bpsT, List.filter_append, List.map_append]
  congr 1
  by_cases h : (t.kind == 1 && takesT t x) = true
  · simp [h]
  · simp [h]
theorem bps_bounds (x : Ls) : ∀ (ts : List Tr), 0 ≤ (bpsT x ts).sum ∧ (bpsT x ts).sum ≤ 10000 * ts.length
  | [] => by simp [bpsT]
  | t :: r => by
    have ih := bps_bounds x r
    have e : bpsT x (t :: r) = (if (t.kind == 1 && takesT t x) = true then [t.bp] else []) ++ bpsT x r := by
      simp only [bpsT, List.filter_cons]
      split <;> simp
    rw [e, List.sum_append, List.length_cons]
    by_cases h : (t.kind == 1 && takesT t x) = true
    · rw [if_pos h]
      have h' : t.kind = 1 ∧ takesT t x = true := by simpa using h
      have := right_bp (takes_right h'.2).1 h'.1
      simp only [List.sum_cons, List.sum_nil]; omega
    · rw [if_neg h]; simp only [List.sum_nil]; omega
def overT (ts : List Tr) (x : Ls) : Bool := decide ((bpsT x ts).sum > 10000)
set_option maxHeartbeats 1000000 in
theorem sOver (ts : List Tr) (x : Ls) (hl : ts.length ≤ 1000) : Ctr Try.prog 46 [.d (slT ts), vX x] [] (.d (.bool (overT ts x))) [] [] := by
  refine ctr_pure Try.func46 ok46 rfl cc46 cr46 Try.ntmps46 (by simp) rfl rfl ?_; intro c hP hfn; simp only [kc46, slT, vX, cX', vcb, ↓evSo_some, ↓reduceIte, reduceCtorEq, seval]
  refine vcC.loop (X := Nat) (fun k => ⟨[(3, .own 3 0), (5, .d (.int .i64 (bpsT x (ts.take k)).sum)), (8, .d (slT ts)), (9, .d (.int .i64 ts.length)), (10, .d (.int .i64 k))], [(3, .fix (cX' x))], [3]⟩)
    (fun k => k ≤ ts.length) (fun k => ts.length - k) 0 (Nat.zero_le _) (Wk.of _ hfn rfl (by simp only [slT, bpsT, List.take_zero, List.filter_nil, List.map_nil, List.sum_nil, enb, vcb, ↓evSo_some, ↓reduceIte, reduceCtorEq, seval]) (by simp only [cX', enb, vcb, ↓evSo_some, ↓reduceIte, reduceCtorEq, seval])) ?_
  rintro k hk
  simp only [slT, cX', vcb, ↓evSo_some, ↓reduceIte, reduceCtorEq, seval]
  refine ⟨fun h1 => ?_, fun h1 => ?_⟩
  · have hlt : k < ts.length := by have := of_decide_eq_true h1; omega
    obtain ⟨t, hd, hg, -, hat⟩ := drop_at hlt
    have ht : ts.take (k + 1) = ts.take k ++ [t] := by rw [List.take_add_one, hat]; rfl
    have hb := bps_bounds x (ts.take k)
    have hb2 := bps_bounds x (ts.take (k + 1))
    have hsn := bps_snoc x (ts.take k) t
    rw [← ht] at hsn
    have hlen : (ts.take (k + 1)).length ≤ 1000 := by rw [List.length_take]; omega
    have cT := s23 t x
    simp only [vT, Go.Proofs.Ytgpckelpmincmaa.cT, vX, cX'] at cT
    simp only [hg, vcb, ↓evSo_some, ↓reduceIte, reduceCtorEq, seval]
    repeat' first
        | (first
            | refine TR.p hP (by first | exact cT) (by repeat' first | exact trivial | (intro _; assumption) | apply And.intro) ?_
            | refine TR.gp hP rfl (fun _ => by first | exact cT) (fun _ => by repeat' first | exact trivial | (intro _; assumption) | apply And.intro) ?_
            | refine TR.pv hP rfl (by first | exact cT) trivial (by repeat' first | exact trivial | (intro _; assumption) | apply And.intro) ?_
           try simp only [hg, vcb, ↓evSo_some, ↓reduceIte, reduceCtorEq, seval])
        | refine And.intro (fun h => ?_) (fun h => ?_)
        | refine And.intro (by first | omega | (simp only [maxLen, decide_eq_true_eq, decide_eq_false_iff_not] at *; omega)) ?_
        | (refine TR.aslO rfl rfl rfl rfl trivial (Nat.le_of_ble_eq_true rfl) ?_
           try simp only [hg, vcb, ↓evSo_some, ↓reduceIte, reduceCtorEq, seval])
        | refine And.intro trivial ?_
        | refine And.intro rfl ?_
        | fail
    · have h' : (t.kind == 1 && takesT t x) = true := by simpa using h
      rw [if_pos h'] at hsn
      have hs : (bpsT x (ts.take (k + 1))).sum = (bpsT x (ts.take k)).sum + t.bp := by rw [hsn, List.sum_append]; simp
      have ew : IntKind.i64.wrap ((bpsT x (ts.take k)).sum + t.bp) = (bpsT x (ts.take (k + 1))).sum := by rw [← hs]; exact wI (by omega)
      exact lopK.on (k + 1) hlt (by omega) (Wk.of _ hfn rfl (by simp only [slT, ew, enb, vcb, ↓evSo_some, ↓reduceIte, reduceCtorEq, seval]; exact wS (by omega)) (by simp only [cX', enb, vcb, ↓evSo_some, ↓reduceIte, reduceCtorEq, seval]))
    · have h' : ¬ (t.kind == 1 && takesT t x) = true := by simpa using h
      rw [if_neg h', List.append_nil] at hsn
      exact lopK.on (k + 1) hlt (by omega) (Wk.of _ hfn rfl (by simp only [slT, hsn, enb, vcb, ↓evSo_some, ↓reduceIte, reduceCtorEq, seval]; exact wS (by omega)) (by simp only [cX', enb, vcb, ↓evSo_some, ↓reduceIte, reduceCtorEq, seval]))
  · have hkl : k = ts.length := by have := of_decide_eq_false h1; omega
    rw [hkl, List.take_length]
    exact RetK.pure (by simp only [rs46, rsb, vcb, ↓evSo_some, ↓reduceIte, reduceCtorEq, seval]) (by (simp only [rs46, rsb, vcb, ↓evSo_some, ↓reduceIte, reduceCtorEq, seval, enb, vcb, ↓evSo_some, ↓reduceIte, reduceCtorEq, seval]) <;> (first | rfl))
def idxT (p : Tr → Bool) : Nat → List Tr → Int
  | _, [] => -1
  | k, x :: r => if p x = true then (k : Int) else idxT p (k + 1) r
theorem idxT_any (p : Tr → Bool) : ∀ (l : List Tr) (k : Nat), decide (idxT p k l ≥ 0) = l.any p
  | [], k => by simp [idxT]
  | x :: r, k => by
    by_cases h : p x = true
    · simp [idxT, h]
    · simp [idxT, h]; simpa using idxT_any p r (k + 1)
theorem sIdxT (g : Nat) (p : Tr → Bool) (hg : ∀ x, Ctr Try.prog g [vT x] [] (.d (.bool (p x))) [] []) (l : List Tr) (hl : l.length ≤ 9223372036854775807) : Ctr Try.prog 60 [.d (slT l), .fn (.func g) [] []] [] (.d (.int .i64 (idxT p 0 l))) [] [] := by
  refine ctr_pure Try.func60 ok60 rfl cc60 cr60 Try.ntmps60 (by simp) rfl rfl ?_; intro c hP hfn; simp only [kc60, slT, vcb, ↓evSo_some, ↓reduceIte, reduceCtorEq, seval]
  refine vcC.loop (X := Nat) (fun k => ⟨[(0, .d (slT l)), (1, .fn (.func g) [] []), (7, .d (.int .i64 l.length)), (8, .d (.int .i64 k))], [], []⟩)
    (fun k => k ≤ l.length ∧ idxT p 0 l = idxT p k (l.drop k)) (fun k => l.length - k) 0 ⟨Nat.zero_le _, rfl⟩ (Wk.of [] hfn rfl (by simp only [slT, enb, vcb, ↓evSo_some, ↓reduceIte, reduceCtorEq, seval]) (by simp only [enb, vcb, ↓evSo_some, ↓reduceIte, reduceCtorEq, seval])) ?_
  rintro k ⟨hk, he⟩
  simp only [slT, vcb, ↓evSo_some, ↓reduceIte, reduceCtorEq, seval]
  refine ⟨fun h1 => ?_, fun h1 => ?_⟩
  · have hlt : k < l.length := by simpa using h1
    obtain ⟨x, hd, hg', -, -⟩ := drop_at hlt
    simp only [hg']
    rw [hd, idxT] at he
    repeat' first
        | (first
            | refine TR.p hP (by first | exact hg x) (by repeat' first | exact trivial | (intro _; assumption) | apply And.intro) ?_
            | refine TR.gp hP rfl (fun _ => by first | exact hg x) (fun _ => by repeat' first | exact trivial | (intro _; assumption) | apply And.intro) ?_
            | refine TR.pv hP rfl (by first | exact hg x) trivial (by repeat' first | exact trivial | (intro _; assumption) | apply And.intro) ?_
           try simp only [vcb, ↓evSo_some, ↓reduceIte, reduceCtorEq, seval])
        | refine And.intro (fun h => ?_) (fun h => ?_)
        | refine And.intro (by first | omega | (simp only [maxLen, decide_eq_true_eq, decide_eq_false_iff_not] at *; omega)) ?_
        | (refine TR.aslO rfl rfl rfl rfl trivial (Nat.le_of_ble_eq_true rfl) ?_
           try simp only [vcb, ↓evSo_some, ↓reduceIte, reduceCtorEq, seval])
        | refine And.intro trivial ?_
        | refine And.intro rfl ?_
        | fail
    · exact RetK.pure (by simp only [rs60, rsb, vcb, ↓evSo_some, ↓reduceIte, reduceCtorEq, seval]) (by (simp only [rs60, rsb, vcb, ↓evSo_some, ↓reduceIte, reduceCtorEq, seval, enb, vcb, ↓evSo_some, ↓reduceIte, reduceCtorEq, seval]) <;> (first | rw [he, if_pos h]))
    · refine lopK.on (k + 1) ⟨hlt, ?_⟩ (by omega) (Wk.of [] hfn rfl (by simp only [slT, enb, vcb, ↓evSo_some, ↓reduceIte, reduceCtorEq, seval]; exact wS (by omega)) (by simp only [enb, vcb, ↓evSo_some, ↓reduceIte, reduceCtorEq, seval]))
      rw [he, h]; simp
  · have hkl : k = l.length := by simp at h1; omega
    rw [hkl] at he
    exact RetK.pure (by simp only [rs60, rsb, vcb, ↓evSo_some, ↓reduceIte, reduceCtorEq, seval]) (by (simp only [rs60, rsb, vcb, ↓evSo_some, ↓reduceIte, reduceCtorEq, seval, enb, vcb, ↓evSo_some, ↓reduceIte, reduceCtorEq, seval]) <;> (first | simp [he, idxT]))
theorem sAnyT (g : Nat) (p : Tr → Bool) (hg : ∀ x, Ctr Try.prog g [vT x] [] (.d (.bool (p x))) [] []) (l : List Tr) (hl : l.length ≤ 9223372036854775807) : Ctr Try.prog 42 [.d (slT l), .fn (.func g) [] []] [] (.d (.bool (l.any p))) [] [] := by
  refine ctr_pure Try.func42 ok42 rfl cc42 cr42 Try.ntmps42 (by simp) rfl rfl ?_; intro c hP hfn; simp only [kc42, slT, vcb, ↓evSo_some, ↓reduceIte, reduceCtorEq, seval]
  repeat' first
      | (first
          | refine TR.p hP (by first | exact sIdxT g p hg l hl) (by repeat' first | exact trivial | (intro _; assumption) | apply And.intro) ?_
          | refine TR.gp hP rfl (fun _ => by first | exact sIdxT g p hg l hl) (fun _ => by repeat' first | exact trivial | (intro _; assumption) | apply And.intro) ?_
          | refine TR.pv hP rfl (by first | exact sIdxT g p hg l hl) trivial (by repeat' first | exact trivial | (intro _; assumption) | apply And.intro) ?_
         try simp only [vcb, ↓evSo_some, ↓reduceIte, reduceCtorEq, seval])
      | refine And.intro (fun h => ?_) (fun h => ?_)
      | refine And.intro (by first | omega | (simp only [maxLen, decide_eq_true_eq, decide_eq_false_iff_not] at *; omega)) ?_
      | (refine TR.aslO rfl rfl rfl rfl trivial (Nat.le_of_ble_eq_true rfl) ?_
         try simp only [vcb, ↓evSo_some, ↓reduceIte, reduceCtorEq, seval])
      | refine And.intro trivial ?_
      | refine And.intro rfl ?_
      | fail
  exact RetK.pure (by simp only [rs42, rsb, vcb, ↓evSo_some, ↓reduceIte, reduceCtorEq, seval]) (by (simp only [rs42, rsb, vcb, ↓evSo_some, ↓reduceIte, reduceCtorEq, seval, enb, vcb, ↓evSo_some, ↓reduceIte, reduceCtorEq, seval]) <;> (first | exact idxT_any p l 0))
theorem sMay1 (t : Tr) : Ctr Try.prog 40 [vT t] [] (.d (.bool (!(rightT t)))) [] [] := by
  refine ctr_pure Try.func40 ok40 rfl cc40 cr40 Try.ntmps40 (by simp) rfl rfl ?_; intro c hP hfn; simp only [kc40, vT, cT, vcb, ↓evSo_some, ↓reduceIte, reduceCtorEq, seval]
  repeat' first
      | (first
          | refine TR.p hP (by first | exact s26 t) (by repeat' first | exact trivial | (intro _; assumption) | apply And.intro) ?_
          | refine TR.gp hP rfl (fun _ => by first | exact s26 t) (fun _ => by repeat' first | exact trivial | (intro _; assumption) | apply And.intro) ?_
          | refine TR.pv hP rfl (by first | exact s26 t) trivial (by repeat' first | exact trivial | (intro _; assumption) | apply And.intro) ?_
         try simp only [vT, cT, vcb, ↓evSo_some, ↓reduceIte, reduceCtorEq, seval])
      | refine And.intro (fun h => ?_) (fun h => ?_)
      | refine And.intro (by first | omega | (simp only [maxLen, decide_eq_true_eq, decide_eq_false_iff_not] at *; omega)) ?_
      | (refine TR.aslO rfl rfl rfl rfl trivial (Nat.le_of_ble_eq_true rfl) ?_
         try simp only [vT, cT, vcb, ↓evSo_some, ↓reduceIte, reduceCtorEq, seval])
      | refine And.intro trivial ?_
      | refine And.intro rfl ?_
      | fail
  exact RetK.pure (by simp only [rs40, rsb, vcb, ↓evSo_some, ↓reduceIte, reduceCtorEq, seval]) (by simp only [rs40, rsb, vcb, ↓evSo_some, ↓reduceIte, reduceCtorEq, seval, enb, vcb, ↓evSo_some, ↓reduceIte, reduceCtorEq, seval])
theorem sMay2 (x : Ls) : Ctr Try.prog 41 [vX x] [] (.d (.bool (!(lossX x)))) [] [] := by
  refine ctr_pure Try.func41 ok41 rfl cc41 cr41 Try.ntmps41 (by simp) rfl rfl ?_; intro c hP hfn; simp only [kc41, vX, cX', vcb, ↓evSo_some, ↓reduceIte, reduceCtorEq, seval]
  repeat' first
      | (first
          | refine TR.p hP (by first | exact s28 x) (by repeat' first | exact trivial | (intro _; assumption) | apply And.intro) ?_
          | refine TR.gp hP rfl (fun _ => by first | exact s28 x) (fun _ => by repeat' first | exact trivial | (intro _; assumption) | apply And.intro) ?_
          | refine TR.pv hP rfl (by first | exact s28 x) trivial (by repeat' first | exact trivial | (intro _; assumption) | apply And.intro) ?_
         try simp only [vX, cX', vcb, ↓evSo_some, ↓reduceIte, reduceCtorEq, seval])
      | refine And.intro (fun h => ?_) (fun h => ?_)
      | refine And.intro (by first | omega | (simp only [maxLen, decide_eq_true_eq, decide_eq_false_iff_not] at *; omega)) ?_
      | (refine TR.aslO rfl rfl rfl rfl trivial (Nat.le_of_ble_eq_true rfl) ?_
         try simp only [vX, cX', vcb, ↓evSo_some, ↓reduceIte, reduceCtorEq, seval])
      | refine And.intro trivial ?_
      | refine And.intro rfl ?_
      | fail
  exact RetK.pure (by simp only [rs41, rsb, vcb, ↓evSo_some, ↓reduceIte, reduceCtorEq, seval]) (by simp only [rs41, rsb, vcb, ↓evSo_some, ↓reduceIte, reduceCtorEq, seval, enb, vcb, ↓evSo_some, ↓reduceIte, reduceCtorEq, seval])
theorem sMay3' (ts : List Tr) (x : Ls) (hl : ts.length ≤ 1000) : Ctr Try.prog 45 [vX x, .own 700 0] [(700, .fix [.d (slT ts)])] (.d (.bool (overT ts x))) [(700, .fix [.d (slT ts)])] [] := by
  refine ctr_own Try.func45 ok45 rfl cc45 cr45 Try.ntmps45 (by simp [vX]) rfl ?_
  intro c hP hfn
  have co := sOver ts x hl
  simp only [kc45, namesL, V.names, ownNames, vX, cX', slT, vcb, ↓evSo_some, ↓reduceIte, reduceCtorEq, seval]
  simp only [slT, vX, cX'] at co
  repeat' first
      | (first
          | refine TR.p hP (by first | exact co) (by repeat' first | exact trivial | (intro _; assumption) | apply And.intro) ?_
          | refine TR.gp hP rfl (fun _ => by first | exact co) (fun _ => by repeat' first | exact trivial | (intro _; assumption) | apply And.intro) ?_
          | refine TR.pv hP rfl (by first | exact co) trivial (by repeat' first | exact trivial | (intro _; assumption) | apply And.intro) ?_
         try simp only [vcb, ↓evSo_some, ↓reduceIte, reduceCtorEq, seval])
      | refine And.intro (fun h => ?_) (fun h => ?_)
      | refine And.intro (by first | omega | (simp only [maxLen, decide_eq_true_eq, decide_eq_false_iff_not] at *; omega)) ?_
      | (refine TR.aslO rfl rfl rfl rfl trivial (Nat.le_of_ble_eq_true rfl) ?_
         try simp only [vcb, ↓evSo_some, ↓reduceIte, reduceCtorEq, seval])
      | refine And.intro trivial ?_
      | refine And.intro rfl ?_
      | fail
  refine RetK.mk _ (Wk.refl _ _) (by simp only [rs45, rsb, vcb, ↓evSo_some, ↓reduceIte, reduceCtorEq, seval]) (by simp only [rs45, rsb, vcb, ↓evSo_some, ↓reduceIte, reduceCtorEq, seval, enb, vcb, ↓evSo_some, ↓reduceIte, reduceCtorEq, seval]) ?_
  simp only [enb, vcb, ↓evSo_some, ↓reduceIte, reduceCtorEq, seval]
theorem sMay3 (ts : List Tr) (x : Ls) (hl : ts.length ≤ 1000) : Ctr Try.prog 45 [vX x, .own 2 0] [(2, .fix [.d (slT ts)])] (.d (.bool (overT ts x))) [(2, .fix [.d (slT ts)])] [] := by
  have := (sMay3' ts x hl).sw 700 2
  simpa only [vX, cX', slT, vcb, ↓evSo_some, ↓reduceIte, reduceCtorEq, seval] using this
def oT (ts : List Tr) : Own := .fix [.d (slT ts)]
theorem sIdxC (ts : List Tr) (g : Nat) (p : Ls → Bool) (hg : ∀ x, Ctr Try.prog g [vX x, .own 2 0] [(2, oT ts)] (.d (.bool (p x))) [(2, oT ts)] []) (l : List Ls) (hl : l.length ≤ 9223372036854775807) :
    Ctr Try.prog 61 [.d (slX l), .fn (.func g) [] [.own 2 0]] [(2, oT ts)] (.d (.int .i64 (idxX p 0 l))) [(2, oT ts)] [] := by
  refine ctr_own Try.func61 ok61 rfl cc61 cr61 Try.ntmps61 (by simp) rfl ?_
  intro c hP hfn
  simp only [kc61, namesL, V.names, ownNames, oT, slX, vcb, ↓evSo_some, ↓reduceIte, reduceCtorEq, seval]
  refine vcC.loop (X := Nat) (fun k => ⟨[(0, .d (slX l)), (1, .fn (.func g) [] [.own 2 0]), (7, .d (.int .i64 l.length)), (8, .d (.int .i64 k))], [(2, oT ts)], [2]⟩)
    (fun k => k ≤ l.length ∧ idxX p 0 l = idxX p k (l.drop k)) (fun k => l.length - k) 0 ⟨Nat.zero_le _, rfl⟩ (Wk.of _ hfn rfl (by simp only [slX, enb, vcb, ↓evSo_some, ↓reduceIte, reduceCtorEq, seval]) (by simp only [oT, enb, vcb, ↓evSo_some, ↓reduceIte, reduceCtorEq, seval])) ?_
  rintro k ⟨hk, he⟩
  simp only [slX, vcb, ↓evSo_some, ↓reduceIte, reduceCtorEq, seval]
  refine ⟨fun h1 => ?_, fun h1 => ?_⟩
  · have hlt : k < l.length := by simpa using h1
    obtain ⟨x, hd, hg', -, -⟩ := drop_at hlt
    simp only [hg', vcb, ↓evSo_some, ↓reduceIte, reduceCtorEq, seval]
    rw [hd, idxX] at he
    refine ⟨by omega, ?_⟩
    refine TR.keep [2] (.d (.bool (p x))) (valid_keep (ins := [(2, oT ts)]) (valid_callv (f := g) (first := []) (cap := [.own 2 0]) rfl (by rw [hP]; exact hg x) trivial (by repeat' first | exact trivial | (intro _; assumption) | apply And.intro) (hin1 rfl) (by simp [keysO])) (hin1 rfl) (by simp [keysO]) (by simp [keysO])) ?_
    simp only [vcb, ↓evSo_some, ↓reduceIte, reduceCtorEq, seval]
    refine ⟨fun h => ?_, fun h => ?_⟩
    · refine RetK.mk _ (Wk.refl _ _) (by simp only [rs61, rsb, vcb, ↓evSo_some, ↓reduceIte, reduceCtorEq, seval]) (by simp only [rs61, rsb, vcb, ↓evSo_some, ↓reduceIte, reduceCtorEq, seval, enb, vcb, ↓evSo_some, ↓reduceIte, reduceCtorEq, seval]; rw [he, if_pos h]) ?_
      simp only [oT, enb, vcb, ↓evSo_some, ↓reduceIte, reduceCtorEq, seval]
    · refine lopK.on (k + 1) ⟨hlt, ?_⟩ (by omega) (Wk.of _ hfn rfl (by simp only [slX, enb, vcb, ↓evSo_some, ↓reduceIte, reduceCtorEq, seval]; exact wS (by omega)) (by simp only [oT, enb, vcb, ↓evSo_some, ↓reduceIte, reduceCtorEq, seval]))
      rw [he, h]; simp
  · have hkl : k = l.length := by simp at h1; omega
    rw [hkl] at he
    refine RetK.mk _ (Wk.refl _ _) (by simp only [rs61, rsb, vcb, ↓evSo_some, ↓reduceIte, reduceCtorEq, seval]) (by simp only [rs61, rsb, vcb, ↓evSo_some, ↓reduceIte, reduceCtorEq, seval, enb, vcb, ↓evSo_some, ↓reduceIte, reduceCtorEq, seval]; simp [he, idxX]) ?_
    simp only [oT, enb, vcb, ↓evSo_some, ↓reduceIte, reduceCtorEq, seval]
theorem sAnyC (ts : List Tr) (g : Nat) (p : Ls → Bool) (hg : ∀ x, Ctr Try.prog g [vX x, .own 2 0] [(2, oT ts)] (.d (.bool (p x))) [(2, oT ts)] []) (l : List Ls) (hl : l.length ≤ 9223372036854775807) :
    Ctr Try.prog 43 [.d (slX l), .fn (.func g) [] [.own 2 0]] [(2, oT ts)] (.d (.bool (l.any p))) [(2, oT ts)] [] := by
  refine ctr_own Try.func43 ok43 rfl cc43 cr43 Try.ntmps43 (by simp) rfl ?_
  intro c hP hfn
  have ci := sIdxC ts g p hg l hl
  simp only [slX, oT] at ci
  simp only [kc43, namesL, V.names, ownNames, oT, slX, vcb, ↓evSo_some, ↓reduceIte, reduceCtorEq, seval]
  refine TR.keep [2] (.d (.int .i64 (idxX p 0 l))) (valid_keep (ins := [(2, oT ts)]) (valid_call (by rw [hP]; exact ci) (by repeat' first | exact trivial | (intro _; assumption) | apply And.intro) (hin1 rfl) (by simp [keysO])) (hin1 rfl) (by simp [keysO]) (by simp [keysO])) ?_
  simp only [vcb, ↓evSo_some, ↓reduceIte, reduceCtorEq, seval]
  refine RetK.mk _ (Wk.refl _ _) (by simp only [rs43, rsb, vcb, ↓evSo_some, ↓reduceIte, reduceCtorEq, seval]) (by simp only [rs43, rsb, vcb, ↓evSo_some, ↓reduceIte, reduceCtorEq, seval, enb, vcb, ↓evSo_some, ↓reduceIte, reduceCtorEq, seval]; exact idxX_any p l 0) ?_
  simp only [enb, vcb, ↓evSo_some, ↓reduceIte, reduceCtorEq, seval]
def mayT (ts : List Tr) (l : List Ls) : Int :=
  if (ts.any (fun t => !(rightT t)) || l.any (fun x => !(lossX x))) = true then 1
  else if ts.length > 100 ∨ l.length > 2000 then 2
  else if dupT [] ts = true then 8
  else if l.any (overT ts) = true then 13
  else 0
set_option maxHeartbeats 1000000 in
theorem sMay (ts : List Tr) (l : List Ls) (ht : ts.length ≤ 1000) (hl : l.length ≤ 9223372036854775807) : Ctr Try.prog 23 [.d (slT ts), .d (slX l)] [] (.d (.int .i64 (mayT ts l))) [] [] := by
  have ca := sAnyT 40 _ sMay1 ts (by omega)
  have cb := s36 41 _ sMay2 l hl
  have ct := sTwice ts ht
  simp only [slT] at ca ct
  simp only [slX] at cb
  refine ctr_pure Try.func23 ok23 rfl cc23 cr23 Try.ntmps23 (by simp) rfl rfl ?_; intro c hP hfn; simp only [kc23, slT, slX, vcb, ↓evSo_some, ↓reduceIte, reduceCtorEq, seval]
  repeat' first
      | (first
          | refine TR.p hP (by first | exact ca | exact cb | exact ct) (by repeat' first | exact trivial | (intro _; assumption) | apply And.intro) ?_
          | refine TR.gp hP rfl (fun _ => by first | exact ca | exact cb | exact ct) (fun _ => by repeat' first | exact trivial | (intro _; assumption) | apply And.intro) ?_
          | refine TR.pv hP rfl (by first | exact ca | exact cb | exact ct) trivial (by repeat' first | exact trivial | (intro _; assumption) | apply And.intro) ?_
         try simp only [vcb, ↓evSo_some, ↓reduceIte, reduceCtorEq, seval])
      | refine And.intro (fun h => ?_) (fun h => ?_)
      | refine And.intro (by first | omega | (simp only [maxLen, decide_eq_true_eq, decide_eq_false_iff_not] at *; omega)) ?_
      | (refine TR.aslO rfl rfl rfl rfl trivial (Nat.le_of_ble_eq_true rfl) ?_
         try simp only [vcb, ↓evSo_some, ↓reduceIte, reduceCtorEq, seval])
      | refine And.intro trivial ?_
      | refine And.intro rfl ?_
      | fail
  all_goals clear ca cb ct
  all_goals try (exfalso; simp_all; done)
  all_goals try (refine TR.keep [2] (.d (.bool (l.any (overT ts)))) (valid_keep (ins := [(2, oT ts)]) (valid_call (by rw [hP]; exact sAnyC ts 45 (overT ts) (fun x => sMay3 ts x ht) l hl) (by repeat' first | exact trivial | (intro _; assumption) | apply And.intro) (hin1 rfl) (by simp [keysO])) (hin1 rfl) (by simp [keysO]) (by simp [keysO])) ?_; simp only [vcb, ↓evSo_some, ↓reduceIte, reduceCtorEq, seval]; refine ⟨fun h => ?_, fun h => ?_⟩)
  all_goals (refine RetK.pure (by simp only [rs23, rsb, vcb, ↓evSo_some, ↓reduceIte, reduceCtorEq, seval]) ?_; simp only [rs23, rsb, vcb, ↓evSo_some, ↓reduceIte, reduceCtorEq, seval, enb, vcb, ↓evSo_some, ↓reduceIte, reduceCtorEq, seval])
  all_goals (simp only [mayT]; generalize (ts.any fun t => !(rightT t)) = A at *; generalize (l.any fun x => !(lossX x)) = B at *; generalize l.any (overT ts) = C at *; clear hP hfn; grind)
end Go.Proofs.Ytgpckelpmincmaa
end
section
set_option linter.unusedSimpArgs false
set_option linter.unusedVariables false
namespace Go.Proofs.Ytgpckelpmincmaa
set_option linter.unusedSimpArgs false
set_option linter.unusedVariables false
open Go.Bx
set_option maxRecDepth 10000
def cC (p : Int × Int) : List D := [.int .i64 p.1, .int .i64 p.2]
abbrev Sw := List Int × List (List (Int × Int))
def swpS (id : Int) (b : List Int) (i : Nat) (s : Sw) : Sw :=
  (s.1.set i (s.1.getD i 0 - min (b.getD i 0) (s.1.getD i 0)), if 0 < min (b.getD i 0) (s.1.getD i 0) then s.2.set i (s.2.getD i [] ++ [(id, min (b.getD i 0) (s.1.getD i 0))]) else s.2)
def swpR (id : Int) (b : List Int) : Nat → Nat → Sw → Sw
  | 0, _, s => s
  | n + 1, i, s => swpR id b n (i + 1) (swpS id b i s)
def swe (id : Int) (b : List Int) (s : Sw) : Sw := swpR id b b.length 0 s
structure SwI (l : List Ls) (k i : Nat) (s : Sw) : Prop where
  la : s.1.length = l.length
  lg : s.2.length = l.length
  am : ∀ j, 0 ≤ s.1.getD j 0 ∧ s.1.getD j 0 ≤ (l.getD j default).amt
  gl : ∀ j g, s.2[j]? = some g → g.length ≤ k + (if j < i then 1 else 0)
theorem SwI.step {l : List Ls} {k i : Nat} {s : Sw} (h : SwI l k i s) (id : Int) {b : List Int} (hi : i < l.length) (hb : 0 ≤ b.getD i 0) : SwI l k (i + 1) (swpS id b i s) := by
  have ha := h.am i
  have hla := h.la
  have hlg := h.lg
  refine ⟨by simp [swpS, h.la], ?_, fun j => ?_, fun j g hg => ?_⟩
  · unfold swpS; dsimp only; split <;> simp [h.lg]
  · unfold swpS; dsimp only
    by_cases e : i = j
    · subst e
      rw [List.getD_eq_getElem?_getD, List.getElem?_set_self (by omega), Option.getD_some]; omega
    · rw [List.getD_eq_getElem?_getD, List.getElem?_set_ne e, ← List.getD_eq_getElem?_getD]; exact h.am j
  · unfold swpS at hg; dsimp only at hg
    split at hg
    · by_cases e : i = j
      · subst e
        rw [List.getElem?_set_self (by omega)] at hg
        cases hg
        have h1 : s.2[i]? = some s.2[i] := List.getElem?_eq_getElem (by omega)
        have h2 := h.gl i _ h1
        rw [if_neg (Nat.lt_irrefl i)] at h2
        rw [List.getD_eq_getElem?_getD, h1, Option.getD_some, List.length_append, List.length_singleton, if_pos (Nat.lt_succ_self i)]; omega
      · rw [List.getElem?_set_ne e] at hg
        have := h.gl j g hg
        split at this
        · rw [if_pos (by omega)]; exact this
        · omega
    · have := h.gl j g hg
      split at this
      · rw [if_pos (by omega)]; exact this
      · omega
theorem SwI.next {l : List Ls} {k : Nat} {s : Sw} (h : SwI l k l.length s) : SwI l (k + 1) 0 s := by
  refine ⟨h.la, h.lg, h.am, fun j g hg => ?_⟩
  have h1 := h.gl j g hg
  have h2 : j < s.2.length := (List.getElem?_eq_some_iff.1 hg).1
  have := h.lg
  rw [if_pos (by omega)] at h1
  omega
theorem swpR_ok {l : List Ls} {k : Nat} (id : Int) {b : List Int} (hb : ∀ i, 0 ≤ b.getD i 0) : ∀ (n i : Nat) (s : Sw), i + n ≤ l.length → SwI l k i s → SwI l k (i + n) (swpR id b n i s)
  | 0, _, _, _, h => h
  | n + 1, i, s, hn, h => by
    rw [swpR, show i + (n + 1) = i + 1 + n by omega]
    exact swpR_ok id hb n (i + 1) _ (by omega) (h.step id (by omega) (hb i))
theorem swp_ok {l : List Ls} {k : Nat} {s : Sw} (id : Int) {b : List Int} (hb : ∀ i, 0 ≤ b.getD i 0) (hl : b.length = l.length) (h : SwI l k 0 s) : SwI l (k + 1) 0 (swe id b s) := by
  have := swpR_ok id hb b.length 0 s (by omega) h
  rw [Nat.zero_add, hl] at this
  rw [swe, hl]
  exact this.next
theorem with_get {l : List Ls} {a : List Int} (h : a.length = l.length) (i : Nat) : (withX l a).getD i default = { l.getD i default with amt := a.getD i 0 } := by
  unfold withX
  by_cases hi : i < l.length
  · simp only [List.getD_eq_getElem?_getD, List.getElem?_zipWith, List.getElem?_eq_getElem hi, List.getElem?_eq_getElem (show i < a.length by omega), Option.getD_some]
  · simp only [List.getD_eq_getElem?_getD, List.getElem?_zipWith, List.getElem?_eq_none (show l.length ≤ i by omega), List.getElem?_eq_none (show a.length ≤ i by omega), Option.getD_none]
    rfl
theorem with_len {l : List Ls} {a : List Int} (h : a.length = l.length) : (withX l a).length = l.length := by simp [withX, h]
theorem with_right {l : List Ls} {a : List Int} (h : a.length = l.length) (hx : ∀ x, x ∈ l → lossX x = true) (ha : ∀ j, 0 ≤ a.getD j 0 ∧ a.getD j 0 ≤ (l.getD j default).amt) : ∀ x, x ∈ withX l a → lossX x = true := by
  intro x hm
  obtain ⟨i, hi⟩ := List.mem_iff_getElem?.1 hm
  have hil : i < l.length := by have := (List.getElem?_eq_some_iff.1 hi).1; rw [with_len h] at this; exact this
  have e := with_get h i
  rw [List.getD_eq_getElem?_getD, hi, Option.getD_some] at e
  have hl := lossX_iff.1 (hx _ (List.getElem_mem hil))
  have hg : l.getD i default = l[i] := by rw [List.getD_eq_getElem?_getD, List.getElem?_eq_getElem hil]; rfl
  have hh := ha i
  rw [hg] at e hh
  rw [e, lossX_iff]
  refine ⟨hl.1, hl.2.1, hl.2.2.1, hl.2.2.2.1, ?_⟩
  simp only; omega
def twr (l : List Ls) (ts : List Tr) : List Int → Sw → List Ls → Int → Sw
  | [], s, _, _ => s
  | k :: r, s, rd, kd =>
    twr l ts r (swe (ts.getD k.toNat default).id (bearsA (ts.getD k.toNat default) (if (ts.getD k.toNat default).kind ≠ kd then withX l s.1 else rd)) s) (if (ts.getD k.toNat default).kind ≠ kd then withX l s.1 else rd) (ts.getD k.toNat default).kind
def sw0 (l : List Ls) : Sw := (l.map (·.amt), List.replicate l.length [])
def towerT (ts : List Tr) (l : List Ls) : Sw := twr l ts (orderT ts) (sw0 l) l 1
def ofT (ts : List Tr) (l : List Ls) : List (List (Int × Int)) × List Int × Int := if mayT ts l ≠ 0 then ([], [], mayT ts l) else ((towerT ts l).2, (towerT ts l).1, 0)
theorem sw0_ok (l : List Ls) (hx : ∀ x, x ∈ l → lossX x = true) : SwI l 0 0 (sw0 l) := by
  refine ⟨by simp [sw0], by simp [sw0], fun j => ?_, fun j g hg => ?_⟩
  · simp only [sw0, List.getD_eq_getElem?_getD, List.getElem?_map]
    cases h : l[j]? with
    | none => simp; decide
    | some x =>
      have := lossX_iff.1 (hx x (List.mem_of_getElem? h))
      simp only [Option.map_some, Option.getD_some]; omega
  · simp only [sw0, List.getElem?_replicate] at hg
    split at hg
    · cases hg; simp
    · cases hg
theorem with_self (l : List Ls) : withX l (l.map (·.amt)) = l := by
  induction l with
  | nil => rfl
  | cons x r ih => simp only [withX, List.map_cons, List.zipWith_cons_cons] at ih ⊢; rw [ih]
theorem may_ok {ts : List Tr} {l : List Ls} (h : mayT ts l = 0) : (∀ t, t ∈ ts → rightT t = true) ∧ (∀ x, x ∈ l → lossX x = true) ∧ ts.length ≤ 100 ∧ l.length ≤ 2000 ∧ dupT [] ts = false ∧ l.any (overT ts) = false := by
  unfold mayT at h
  split at h
  · cases h
  rename_i h1
  split at h
  · cases h
  rename_i h2
  split at h
  · cases h
  rename_i h3
  split at h
  · cases h
  rename_i h4
  simp only [Bool.or_eq_true, not_or, Bool.not_eq_true, List.any_eq_false, Bool.not_eq_false'] at h1
  refine ⟨fun t ht => ?_, fun x hx => ?_, by omega, by omega, by simpa using h3, by simpa using h4⟩
  · have := h1.1 t ht; simpa using this
  · have := h1.2 x hx; simpa using this
theorem order_mem (ts : List Tr) : ∀ k, k ∈ orderT ts → 0 ≤ k ∧ k < (ts.length : Int) := by
  intro k hk
  unfold orderT at hk
  obtain ⟨p, hp, rfl⟩ := List.mem_map.1 hk
  have h1 := (sorted_pls (plsT 0 ts)).2.mem_iff.1 hp
  have : ∀ (ts : List Tr) (i : Nat) (p : Pl), p ∈ plsT i ts → (i : Int) ≤ p.i ∧ p.i < ((i + ts.length : Nat) : Int) := by
    intro ts
    induction ts with
    | nil => intro i p h; simp [plsT] at h
    | cons t r ih =>
      intro i p h
      simp only [plsT, List.mem_append] at h
      rcases h with h | h
      · unfold plT at h
        split at h
        · simp at h; subst h; simp; omega
        · split at h
          · simp at h; subst h; simp; omega
          · simp at h
      · have := ih (i + 1) p h
        simp only [List.length_cons]; omega
  have := this ts 0 p h1
  simpa using this
end Go.Proofs.Ytgpckelpmincmaa
end
section
set_option linter.unusedSimpArgs false
set_option linter.unusedVariables false
namespace Go.Proofs.Ytgpckelpmincmaa
set_option linter.unusedSimpArgs false
set_option linter.unusedVariables false
open Go.Bx
set_option maxRecDepth 10000
theorem VsLe.nest0 {dx : Int × Int} {K sz : Nat} : ∀ (n i : Nat), VsLe (catR n (fun _ => [.sl true 0 0 fun _ => []])) (nestC dx cC K 0 sz i (List.replicate n []))
  | 0, _ => trivial
  | n + 1, i => by
    simp only [catR, List.replicate_succ, nestC, List.map_cons, List.map_nil, List.cons_append, List.nil_append, List.length_nil, Nat.le_refl, if_true]
    exact ⟨VLe.sl rfl (fun h => absurd h (Nat.lt_irrefl 0)) id (fun q hq => absurd hq (Nat.not_lt_zero q)), VsLe.nest0 n (i + 1)⟩
theorem OLe.nest0 {dx : Int × Int} {K sz e' n : Nat} : OLe (.row e' 1 n (fun _ => [.sl true 0 0 fun _ => []])) (.lit e' 1 n (nestC dx cC K 0 sz 0 (List.replicate n []))) :=
  fun β E w k h => OLe.lits (VsLe.nest0 n 0) β E w k (OLe.rowLit rfl β E w k h)
abbrev nCC (G : List (List (Int × Int))) : List V := nestC (0, 0) cC 5000 0 2 0 G
abbrev nOC (G : List (List (Int × Int))) : List (Nat × Own) := nestO (0, 0) cC 5000 0 37 2 0 G
theorem nC_at {G : List (List (Int × Int))} {i : Nat} {g : List (Int × Int)} (h : G[i]? = some g) (hg : 0 < g.length) : own? (nOC G) (5000 + i) = some (.row 37 2 g.length (fun j => cC (g.getD j (0, 0)))) := by
  rw [nOC, nestO_own, if_pos (by omega), show 5000 + i - (5000 + 0) = i by omega, h]
  simp only; rw [if_pos hg]
theorem own?_delC {G : List (List (Int × Int))} (k k1 : Nat) : own? (delO (nOC G) k) k1 = if k1 = k then none else own? (nOC G) k1 := own?_delO nestO_nodup k k1
theorem own?_delC1 {G : List (List (Int × Int))} {a : Nat} {o : Own} (k k1 : Nat) : own? (delO (setO (nOC G) a o) k) k1 = if k1 = k then none else own? (setO (nOC G) a o) k1 := own?_delO (nodup_setO nestO_nodup) k k1
theorem own?_delC2 {G : List (List (Int × Int))} {a a2 : Nat} {o o2 : Own} (k k1 : Nat) : own? (delO (setO (setO (nOC G) a o) a2 o2) k) k1 = if k1 = k then none else own? (setO (setO (nOC G) a o) a2 o2) k1 := own?_delO (nodup_setO (nodup_setO nestO_nodup)) k k1
def ofE (ts : List Tr) (l rd : List Ls) (kd : Int) (k : Nat) : List (Nat × V) :=
  [(0, .d (slT ts)), (1, .d (slX l)), (8, .osl 900), (9, .osl 30), (10, .d (slX rd)), (11, .d (.int .i64 kd)), (34, .d (slK .i64 (orderT ts))), (35, .d (.int .i64 (orderT ts).length)), (36, .d (.int .i64 k))]
def ofSt (ts : List Tr) (l rd : List Ls) (kd : Int) (k : Nat) (s : Sw) (ex : List (Nat × V)) (ox : List (Nat × Own)) (nx : List Nat) : St :=
  ⟨ofE ts l rd kd k ++ ex, (30, .lit 35 1 s.2.length (nCC s.2)) :: (([(900, rowX (withX l s.1))] ++ ox) ++ nOC s.2), ([30, 900] ++ nx) ++ nmN 5000 s.2.length⟩
theorem Wk.of0 {c : Ctx} {st : St} {ts : List Tr} {l rd : List Ls} {kd : Int} {k : Nat} {s : Sw} {ex : List (Nat × V)} {ox : List (Nat × Own)} {nx : List Nat} (hfn : c.fn = [])
    (hB : wkB [] ⟨ofE ts l rd kd k ++ ex, (30, .lit 35 1 0 []) :: ([(900, rowX (withX l s.1))] ++ ox), [30, 900] ++ nx⟩ = true) (hN : nx.all (fun k => decide (k < 5000)) = true)
    (he : EnvLe (renE (Go.Bx.sw 0 0) st.env) (ofE ts l rd kd k ++ ex)) (hA : OwnLeS (Go.Bx.sw 0 0) st.own ([(900, rowX (withX l s.1))] ++ ox))
    (hl : own? st.own 30 = some (.lit 35 1 s.2.length (nCC s.2))) (hi : ∀ j, own? st.own (5000 + j) = own? (nOC s.2) (5000 + j)) : Wk c st (ofSt ts l rd kd k s ex ox nx) :=
  Wk.nestKeep (K := 5000) 0 0 [] hfn (by omega) (by omega) (by omega) (by omega) (by simp) (by simp) hB (by simpa using hN) he hA hl hi
theorem Wk.ofI {c : Ctx} {st : St} {ts : List Tr} {l : List Ls} (hfn : c.fn = []) (he : EnvLe (renE (Go.Bx.sw 0 0) st.env) (ofE ts l l 1 0)) (hA : OwnLeS (Go.Bx.sw 0 0) st.own [(900, rowX l)])
    (hl : own? st.own 30 = some (.row 35 1 l.length (fun _ => [.sl true 0 0 fun _ => []]))) : Wk c st (ofSt ts l l 1 0 (sw0 l) [] [] []) := by
  have h := Wk.nest (c := c) (st := st) (dx := ((0, 0) : Int × Int)) (cells := cC) (K := 5000) (K' := 30) (τ := 0) (e' := 35) (e := 37) (sz := 2) (G := List.replicate l.length []) 0 0 [] hfn (by simp) (by simp) (env := ofE ts l l 1 0) (A := [(900, rowX l)]) (N := [30, 900]) rfl rfl he hA
    ⟨_, hl, by simp only [Own.ren, List.length_replicate]; exact OLe.nest0⟩ (fun i g hg1 hg2 => by
      rw [List.getElem?_replicate] at hg1
      split at hg1
      · cases hg1; simp at hg2
      · cases hg1)
  unfold ofSt
  simp only [sw0, with_self, List.append_nil]
  exact h
theorem ne_lo' {a i : Nat} (h : a < 5000) : (a = 5000 + i) = False := eq_false (by omega)
end Go.Proofs.Ytgpckelpmincmaa
end
section
set_option linter.unusedSimpArgs false
set_option linter.unusedVariables false
namespace Go.Proofs.Ytgpckelpmincmaa
set_option linter.unusedSimpArgs false
set_option linter.unusedVariables false
open Go.Bx
set_option maxRecDepth 10000
def twrT (l : List Ls) : List Tr → Sw → List Ls → Int → Sw
  | [], s, _, _ => s
  | t :: r, s, rd, kd => twrT l r (swe t.id (bearsA t (if t.kind ≠ kd then withX l s.1 else rd)) s) (if t.kind ≠ kd then withX l s.1 else rd) t.kind
theorem twr_eq (l : List Ls) (ts : List Tr) : ∀ (o : List Int) (s : Sw) (rd : List Ls) (kd : Int), twr l ts o s rd kd = twrT l (o.map fun k => ts.getD k.toNat default) s rd kd
  | [], _, _, _ => rfl
  | k :: r, s, rd, kd => by rw [twr, List.map_cons, twrT, twr_eq l ts r]
def ordL (ts : List Tr) : List Tr := (ordP ts).map fun p => ts.getD p.i.toNat default
theorem towerT_eq (ts : List Tr) (l : List Ls) : towerT ts l = twrT l (ordL ts) (sw0 l) l 1 := by
  rw [towerT, twr_eq, orderT_eq, List.map_map]; rfl
theorem plsT_at {ts : List Tr} {p : Pl} (h : p ∈ plsT 0 ts) : ts.getD p.i.toNat default ∈ ts ∧ p.k = (ts.getD p.i.toNat default).kind ∧ p ∈ plT (ts.getD p.i.toNat default) p.i.toNat ∧ p.i = (p.i.toNat : Int) ∧ p.i.toNat < ts.length := by
  obtain ⟨j, t, h1, h2⟩ := plsT_mem h
  have h3 := plT_mem h2
  rw [Nat.zero_add] at h3 h2
  have h4 : p.i.toNat = j := by rw [h3.2.1]; simp
  have h5 : ts.getD j default = t := by rw [List.getD_eq_getElem?_getD, h1]; rfl
  rw [h4, h5]
  exact ⟨List.mem_of_getElem? h1, h3.1, h2, h3.2.1, (List.getElem?_eq_some_iff.1 h1).1⟩
theorem ordP_at {ts : List Tr} {p : Pl} (h : p ∈ ordP ts) : ts.getD p.i.toNat default ∈ ts ∧ p.k = (ts.getD p.i.toNat default).kind ∧ p ∈ plT (ts.getD p.i.toNat default) p.i.toNat ∧ p.i = (p.i.toNat : Int) ∧ p.i.toNat < ts.length := plsT_at ((ordP_ok ts).2.mem_iff.1 h)
theorem ordL_mem {ts : List Tr} {t : Tr} (h : t ∈ ordL ts) : t ∈ ts := by
  obtain ⟨p, hp, rfl⟩ := List.mem_map.1 h
  exact (ordP_at hp).1
theorem ordL_kinds (ts : List Tr) : (ordL ts).Pairwise (fun a b => a.kind ≤ b.kind) := by
  unfold ordL
  rw [List.pairwise_map]
  refine (ordP_ok ts).1.imp_of_mem fun {a b} ha hb hab => ?_
  rw [← (ordP_at ha).2.1, ← (ordP_at hb).2.1]
  rw [lessP_not] at hab; omega
theorem plsT_back (all : List Tr) : ∀ (us : List Tr) (i : Nat), all.drop i = us → (∀ t, t ∈ us → t.kind = 1 ∨ t.kind = 2 ∨ t.kind = 3) → (plsT i us).map (fun p => all.getD p.i.toNat default) = us
  | [], _, _, _ => rfl
  | t :: r, i, hd, hk => by
    have hlt : i < all.length := by
      by_cases h : i < all.length
      · exact h
      · rw [List.drop_eq_nil_of_le (by omega)] at hd; cases hd
    obtain ⟨x, hd', hg, -, -⟩ := drop_at hlt
    rw [hd] at hd'
    cases hd'
    have ih := plsT_back all _ (i + 1) rfl (fun u hu => hk u (List.mem_cons_of_mem _ hu))
    have h1 : ∃ a, plT t i = [⟨t.kind, a, i⟩] := by
      unfold plT
      by_cases e : t.kind = 1
      · exact ⟨0, by rw [if_pos e]⟩
      · exact ⟨t.att, by rw [if_neg e, if_pos (by have := hk t List.mem_cons_self; omega)]⟩
    obtain ⟨a, ha⟩ := h1
    rw [plsT, List.map_append, ih, ha]
    simp only [List.map_cons, List.map_nil, Int.toNat_natCast, hg, List.cons_append, List.nil_append]
theorem ordL_perm {ts : List Tr} (hk : ∀ t, t ∈ ts → t.kind = 1 ∨ t.kind = 2 ∨ t.kind = 3) : (ordL ts).Perm ts := by
  have h := (ordP_ok ts).2.map (fun p => ts.getD p.i.toNat default)
  rwa [plsT_back ts ts 0 rfl hk] at h
theorem right_kind {t : Tr} (h : rightT t = true) : t.kind = 1 ∨ t.kind = 2 ∨ t.kind = 3 := by
  unfold rightT at h
  by_cases h1 : t.kind = 1
  · exact .inl h1
  · by_cases h2 : t.kind = 2 ∨ t.kind = 3
    · exact .inr h2
    · rw [if_neg h1, if_neg h2] at h; simp at h
theorem getD_set {α : Type} {l : List α} {i j : Nat} {v d : α} (hi : i < l.length) : (l.set i v).getD j d = if i = j then v else l.getD j d := by
  by_cases e : i = j
  · subst e; rw [if_pos rfl, List.getD_eq_getElem?_getD, List.getElem?_set_self hi]; rfl
  · rw [if_neg e, List.getD_eq_getElem?_getD, List.getElem?_set_ne e, ← List.getD_eq_getElem?_getD]
theorem swpS_len (id : Int) (b : List Int) (i : Nat) (s : Sw) : (swpS id b i s).1.length = s.1.length ∧ (swpS id b i s).2.length = s.2.length := by
  unfold swpS; dsimp only
  refine ⟨by simp, ?_⟩
  split <;> simp
theorem swpR_get (id : Int) (b : List Int) : ∀ (n i : Nat) (s : Sw), i + n ≤ s.1.length → s.1.length = s.2.length → (swpR id b n i s).1.length = s.1.length ∧ (swpR id b n i s).2.length = s.2.length ∧
    ∀ j, (swpR id b n i s).1.getD j 0 = (if i ≤ j ∧ j < i + n then s.1.getD j 0 - min (b.getD j 0) (s.1.getD j 0) else s.1.getD j 0) ∧
      (swpR id b n i s).2.getD j [] = (if (i ≤ j ∧ j < i + n) ∧ 0 < min (b.getD j 0) (s.1.getD j 0) then s.2.getD j [] ++ [(id, min (b.getD j 0) (s.1.getD j 0))] else s.2.getD j [])
  | 0, i, s, _, _ => ⟨rfl, rfl, fun j => ⟨by rw [if_neg (by omega)]; rfl, by rw [if_neg (by omega)]; rfl⟩⟩
  | n + 1, i, s, hn, hl => by
    obtain ⟨l1, l2⟩ := swpS_len id b i s
    obtain ⟨g1, g2, g3⟩ := swpR_get id b n (i + 1) (swpS id b i s) (by omega) (by omega)
    rw [swpR]
    refine ⟨by omega, by omega, fun j => ?_⟩
    obtain ⟨h1, h2⟩ := g3 j
    rw [h1, h2]
    have e1 : (swpS id b i s).1.getD j 0 = if i = j then s.1.getD i 0 - min (b.getD i 0) (s.1.getD i 0) else s.1.getD j 0 := getD_set (by omega)
    have e2 : (swpS id b i s).2.getD j [] = if i = j ∧ 0 < min (b.getD i 0) (s.1.getD i 0) then s.2.getD i [] ++ [(id, min (b.getD i 0) (s.1.getD i 0))] else s.2.getD j [] := by
      unfold swpS; dsimp only
      by_cases hc : 0 < min (b.getD i 0) (s.1.getD i 0)
      · rw [if_pos hc, getD_set (by omega)]
        by_cases e : i = j
        · rw [if_pos e, if_pos ⟨e, hc⟩]
        · rw [if_neg e, if_neg (fun h => e h.1)]
      · rw [if_neg hc, if_neg (fun h => hc h.2)]
    rw [e1, e2]
    by_cases e : i = j
    · subst e
      have hr : ¬ (i + 1 ≤ i ∧ i < i + 1 + n) := by omega
      have hr2 : i ≤ i ∧ i < i + (n + 1) := by omega
      simp only [hr, hr2, false_and, if_false, true_and, if_true, and_self]
    · simp only [e, false_and, if_false]
      by_cases hr : i + 1 ≤ j ∧ j < i + 1 + n
      · have hr2 : i ≤ j ∧ j < i + (n + 1) := by omega
        rw [if_pos hr, if_pos hr2]
        refine ⟨rfl, ?_⟩
        by_cases hc : 0 < min (b.getD j 0) (s.1.getD j 0)
        · rw [if_pos ⟨hr, hc⟩, if_pos ⟨hr2, hc⟩]
        · rw [if_neg (fun h => hc h.2), if_neg (fun h => hc h.2)]
      · have hr2 : ¬ (i ≤ j ∧ j < i + (n + 1)) := by omega
        rw [if_neg hr, if_neg hr2, if_neg (fun h => hr h.1), if_neg (fun h => hr2 h.1)]
        exact ⟨rfl, rfl⟩
theorem swe_get {l : List Ls} {s : Sw} (id : Int) {b : List Int} (hb : b.length = l.length) (h1 : s.1.length = l.length) (h2 : s.2.length = l.length) : ∀ j, j < l.length →
    (swe id b s).1.getD j 0 = s.1.getD j 0 - min (b.getD j 0) (s.1.getD j 0) ∧
    (swe id b s).2.getD j [] = (if 0 < min (b.getD j 0) (s.1.getD j 0) then s.2.getD j [] ++ [(id, min (b.getD j 0) (s.1.getD j 0))] else s.2.getD j []) := by
  intro j hj
  obtain ⟨-, -, h⟩ := swpR_get id b b.length 0 s (by omega) (by omega)
  obtain ⟨g1, g2⟩ := h j
  rw [swe, g1, g2, if_pos (by omega)]
  refine ⟨rfl, ?_⟩
  by_cases hc : 0 < min (b.getD j 0) (s.1.getD j 0)
  · rw [if_pos hc, if_pos ⟨by omega, hc⟩]
  · rw [if_neg hc, if_neg (fun h => hc h.2)]
theorem takes_with (t : Tr) (x : Ls) (a : Int) (h1 : lossX x = true) (h2 : lossX { x with amt := a } = true) : takesT t { x with amt := a } = takesT t x := by
  unfold takesT; rw [h1, h2]
theorem takes_withX {t : Tr} {l : List Ls} {a : List Int} (hX : ∀ x, x ∈ l → lossX x = true) (hl : a.length = l.length) (ha : ∀ j, 0 ≤ a.getD j 0 ∧ a.getD j 0 ≤ (l.getD j default).amt) {j : Nat} (hj : j < l.length) :
    takesT t ((withX l a).getD j default) = takesT t (l.getD j default) := by
  have hm : l.getD j default ∈ l := by rw [List.getD_eq_getElem?_getD, List.getElem?_eq_getElem hj]; exact List.getElem_mem hj
  have hm2 : (withX l a).getD j default ∈ withX l a := by
    have : j < (withX l a).length := by rw [with_len hl]; exact hj
    rw [List.getD_eq_getElem?_getD, List.getElem?_eq_getElem this]; exact List.getElem_mem this
  have h2 := with_right hl hX ha _ hm2
  rw [with_get hl] at h2 ⊢
  exact takes_with t _ _ (hX _ hm) h2
def RdOk (l rd : List Ls) : Prop := ∃ a : List Int, a.length = l.length ∧ (∀ j, 0 ≤ a.getD j 0 ∧ a.getD j 0 ≤ (l.getD j default).amt) ∧ rd = withX l a
theorem RdOk.self {l : List Ls} (hX : ∀ x, x ∈ l → lossX x = true) : RdOk l l := by
  have h := sw0_ok l hX
  exact ⟨(sw0 l).1, by simp [sw0], h.am, (with_self l).symm⟩
theorem RdOk.next {l : List Ls} {k i : Nat} {s : Sw} (h : SwI l k i s) : RdOk l (withX l s.1) := ⟨s.1, h.la, h.am, rfl⟩
theorem rd_bears {l rd : List Ls} (hX : ∀ x, x ∈ l → lossX x = true) (hl : l.length ≤ 2000) (h : RdOk l rd) {t : Tr} (ht : rightT t = true) :
    (bearsA t rd).length = l.length ∧ (∀ i, 0 ≤ (bearsA t rd).getD i 0) ∧ (∀ i, i < l.length → takesT t (l.getD i default) = false → (bearsA t rd).getD i 0 = 0) ∧ (t.kind ≠ 1 → (bearsA t rd).sum ≤ roomT t) := by
  obtain ⟨a, h1, h2, rfl⟩ := h
  have hlen := with_len h1
  obtain ⟨g1, g2⟩ := bears_ok t (withX l a) ht (by omega) (with_right h1 hX h2)
  exact ⟨by rw [g1.len, hlen], g1.nn, fun i hi hh => g1.take i (by omega) (by rw [takes_withX hX h1 h2 hi]; exact hh), g2⟩
end Go.Proofs.Ytgpckelpmincmaa
end
section
set_option linter.unusedSimpArgs false
set_option linter.unusedVariables false
namespace Go.Proofs.Ytgpckelpmincmaa
set_option linter.unusedSimpArgs false
set_option linter.unusedVariables false
open Go.Bx
set_option maxRecDepth 10000
def rfr (ts : List Tr) (base : List Ls) : List Int → Sw → Sw
  | [], s => s
  | k :: r, s => rfr ts base r (swe (ts.getD k.toNat default).id (bearsA (ts.getD k.toNat default) base) s)
def phR (l : List Ls) (ts : List Tr) (kd : Int) (s : Sw) : Sw := rfr ts (withX l s.1) (kindT ts kd) s
def phs (l : List Ls) (ts : List Tr) : Nat → Int → Sw → Sw
  | 0, _, s => s
  | n + 1, kd, s => phs l ts n (kd + 1) (phR l ts kd s)
def refT (ts : List Tr) (l : List Ls) : Sw := phs l ts 3 1 (sw0 l)
end Go.Proofs.Ytgpckelpmincmaa
end
section
set_option linter.unusedSimpArgs false
set_option linter.unusedVariables false
namespace Go.Proofs.Ytgpckelpmincmaa
set_option linter.unusedSimpArgs false
set_option linter.unusedVariables false
open Go.Bx
set_option maxRecDepth 10000
theorem twr_kind {l : List Ls} {ts : List Tr} {kd : Int} {base : List Ls} : ∀ (o : List Int) (s : Sw), (∀ k, k ∈ o → (ts.getD k.toNat default).kind = kd) → ∀ p, twr l ts (o ++ p) s base kd = twr l ts p (rfr ts base o s) base kd
  | [], _, _, _ => rfl
  | k :: r, s, h, p => by
    have hk := h k List.mem_cons_self
    rw [List.cons_append, twr, rfr, hk]
    simp only [ne_eq, not_true_eq_false, if_false]
    exact twr_kind r _ (fun q hq => h q (List.mem_cons_of_mem _ hq)) p
theorem twr_phase {l : List Ls} {ts : List Tr} {kd kd0 : Int} {rd : List Ls} (hne : kd ≠ kd0) : ∀ (o : List Int) (s : Sw), (∀ k, k ∈ o → (ts.getD k.toNat default).kind = kd) → ∀ p,
    (o = [] ∧ twr l ts (o ++ p) s rd kd0 = twr l ts p (rfr ts (withX l s.1) o s) rd kd0) ∨ (o ≠ [] ∧ twr l ts (o ++ p) s rd kd0 = twr l ts p (rfr ts (withX l s.1) o s) (withX l s.1) kd)
  | [], s, _, p => .inl ⟨rfl, rfl⟩
  | k :: r, s, h, p => by
    have hk := h k List.mem_cons_self
    refine .inr ⟨by simp, ?_⟩
    rw [List.cons_append, twr, rfr, hk]
    simp only [hne, ne_eq, not_false_eq_true, if_true]
    exact twr_kind r _ (fun q hq => h q (List.mem_cons_of_mem _ hq)) p
theorem kind_mem {ts : List Tr} {kd : Int} (hkd : kd = 1 ∨ kd = 2 ∨ kd = 3) : ∀ k, k ∈ kindT ts kd → (ts.getD k.toNat default).kind = kd := by
  intro k hk
  have h := kindT_ok (ts := ts) hkd
  have h1 : plA ts kd k ∈ (plsT 0 (ts.take ts.length)).filter (fun p => p.k == kd) := h.perm.mem_iff.1 (List.mem_map.2 ⟨k, hk, rfl⟩)
  rw [List.take_length] at h1
  have h2 := plsT_at (List.mem_filter.1 h1).1
  exact h2.2.1.symm
theorem tower_ref (ts : List Tr) (l : List Ls) : towerT ts l = refT ts l := by
  unfold towerT refT
  rw [order_eq, List.append_assoc, phs, phs, phs, phs]
  have w : withX l (sw0 l).1 = l := with_self l
  have e1 : phR l ts 1 (sw0 l) = rfr ts l (kindT ts 1) (sw0 l) := by rw [phR, w]
  rw [twr_kind (kindT ts 1) (sw0 l) (kind_mem (.inl rfl)), ← e1]
  generalize phR l ts 1 (sw0 l) = s1
  show _ = phR l ts 3 (phR l ts 2 s1)
  have h3 : ∀ (s2 : Sw) (rd : List Ls) (k : Int), k ≠ 3 → twr l ts (kindT ts 3) s2 rd k = phR l ts 3 s2 := fun s2 rd k hk => by
    have := twr_phase (l := l) (ts := ts) (kd := 3) (kd0 := k) (rd := rd) (fun e => hk e.symm) (kindT ts 3) s2 (kind_mem (.inr (.inr rfl))) []
    simp only [List.append_nil] at this
    rcases this with ⟨-, h⟩ | ⟨-, h⟩ <;> rw [h] <;> rfl
  rcases twr_phase (l := l) (ts := ts) (kd := 2) (kd0 := 1) (rd := l) (by decide) (kindT ts 2) s1 (kind_mem (.inr (.inl rfl))) (kindT ts 3) with ⟨-, h⟩ | ⟨-, h⟩
  · rw [h, h3 _ _ _ (by decide)]; rfl
  · rw [h, h3 _ _ _ (by decide)]; rfl
end Go.Proofs.Ytgpckelpmincmaa
end
section
set_option linter.unusedSimpArgs false
set_option linter.unusedVariables false
namespace Go.Proofs.Ytgpckelpmincmaa
set_option linter.unusedSimpArgs false
set_option linter.unusedVariables false
open Go.Bx
set_option maxRecDepth 10000
def slC (l : List (Int × Int)) : D := .sl false 2 l.length (fun i => cC (l.getD i (0, 0)))
def gC (G : List (List (Int × Int))) : D := .sl false 1 G.length (nestD (0, 0) cC 2 G)
def rowC (l : List (Int × Int)) : Own := .row 37 2 l.length (fun i => cC (l.getD i (0, 0)))
theorem sGrow (n : Nat) (hn : n ≤ 1000000000000) : Ctr Try.prog 57 [.d (.sl true 0 0 fun _ => []), .d (.int .i64 (n : Int))] [] (.osl 903) [(903, rowC [])] [903] := by
  refine ctr_own Try.func57 ok57 rfl cc57 cr57 Try.ntmps57 (by simp) rfl ?_
  intro c hP hfn
  have e1 : IntKind.i64.wrap ((0 : Int) - 0) = 0 := wI (by omega)
  have e0 : IntKind.i64.wrap 0 = 0 := wI (by omega)
  have e2 : IntKind.i64.wrap ((n : Int) - 0) = (n : Int) := (wI (by omega)).trans (by omega)
  simp only [kc57, namesL, V.names, ownNames, e0, e1, e2, vcb, ↓evSo_some, ↓reduceIte, reduceCtorEq, seval]
  repeat' first
      | refine And.intro (fun h => ?_) (fun h => ?_)
      | refine And.intro (by first | omega | (simp only [maxLen, decide_eq_true_eq, decide_eq_false_iff_not] at *; omega)) ?_
      | (refine TR.aslO rfl rfl rfl rfl trivial (Nat.le_of_ble_eq_true rfl) ?_
         try simp only [e0, e1, e2, vcb, ↓evSo_some, ↓reduceIte, reduceCtorEq, seval])
      | refine And.intro trivial ?_
      | refine And.intro rfl ?_
      | fail
  · exfalso; have := of_decide_eq_true h; omega
  · exact RetK.mk _ (Wk.shr 22 903 0 rfl (Nat.zero_le _) (by simp)) (by simp only [rs57, rsb, vcb, ↓evSo_some, ↓reduceIte, reduceCtorEq, seval]) (by simp only [rs57, rsb, vcb, ↓evSo_some, ↓reduceIte, reduceCtorEq, seval, enb, vcb, ↓evSo_some, ↓reduceIte, reduceCtorEq, seval]) (by simp only [rowC, enb, vcb, ↓evSo_some, ↓reduceIte, reduceCtorEq, seval]; exact OLe.row rfl (fun i hi => absurd hi (Nat.not_lt_zero i)))
  · have h0 := of_decide_eq_false h
    exact RetK.mk _ (Wk.row0 (s := 4) (k := 903) (e := 37) (sz := 2) (f' := fun i => cC (([] : List (Int × Int)).getD i (0, 0))) rfl rfl (by simp)) (by simp only [rs57, rsb, vcb, ↓evSo_some, ↓reduceIte, reduceCtorEq, seval]) (by simp only [rs57, rsb, vcb, ↓evSo_some, ↓reduceIte, reduceCtorEq, seval, enb, vcb, ↓evSo_some, ↓reduceIte, reduceCtorEq, seval]) (by simp only [rowC, enb, vcb, ↓evSo_some, ↓reduceIte, reduceCtorEq, seval])
def sumC (id : Int) : Int → List (Int × Int) → Int
  | a, [] => a
  | a, p :: r => sumC id (if p.1 = id then IntKind.i64.wrap (a + p.2) else a) r
theorem sumC_app (id : Int) : ∀ (l r : List (Int × Int)) (a : Int), sumC id a (l ++ r) = sumC id (sumC id a l) r
  | [], _, _ => rfl
  | _ :: l, r, a => by simp only [List.cons_append, sumC]; exact sumC_app id l r _
def sumsT (ts : List Tr) (G : List (List (Int × Int))) : List Int := ts.map fun t => sumC t.id 0 G.flatten
theorem sumsT_cons (t : Tr) (ts : List Tr) (G : List (List (Int × Int))) : sumsT (t :: ts) G = sumC t.id 0 G.flatten :: sumsT ts G := rfl
theorem sumsT_nil (G : List (List (Int × Int))) : sumsT [] G = [] := rfl
theorem flat_take {G : List (List (Int × Int))} {k : Nat} {g : List (Int × Int)} (h : G[k]? = some g) : (G.take (k + 1)).flatten = (G.take k).flatten ++ g := by
  rw [List.take_add_one, h]; simp
theorem flat_le (G : List (List (Int × Int))) (k : Nat) : (G.take k).flatten.length ≤ G.flatten.length := by
  conv => rhs; rw [← List.take_append_drop k G, List.flatten_append, List.length_append]
  omega
set_option maxHeartbeats 2000000 in
theorem sConcat (G : List (List (Int × Int))) (hG : G.length ≤ 1000000) (hF : G.flatten.length ≤ 1000000000) : Ctr Try.prog 33 [.d (gC G)] [] (.d (slC G.flatten)) [] [] := by
  refine ctr_pure Try.func33 ok33 rfl cc33 cr33 Try.ntmps33 (by simp) rfl rfl ?_; intro c hP hfn; simp only [kc33, gC, vcb, ↓evSo_some, ↓reduceIte, reduceCtorEq, seval]
  refine vcC.loop (X := Nat) (fun k => ⟨[(0, .d (gC G)), (3, .d (.int .i64 (G.take k).flatten.length)), (9, .d (gC G)), (10, .d (.int .i64 G.length)), (11, .d (.int .i64 k))], [], []⟩)
    (fun k => k ≤ G.length) (fun k => G.length - k) 0 (Nat.zero_le _) (Wk.of _ hfn rfl (by simp only [gC, List.take_zero, List.flatten_nil, enb, vcb, ↓evSo_some, ↓reduceIte, reduceCtorEq, seval]) (by simp only [enb, vcb, ↓evSo_some, ↓reduceIte, reduceCtorEq, seval])) ?_
  rintro k hk
  have hle := flat_le G k
  simp only [gC, vcb, ↓evSo_some, ↓reduceIte, reduceCtorEq, seval]
  refine ⟨fun h1 => ?_, fun h1 => ?_⟩
  · have hlt : k < G.length := by have := of_decide_eq_true h1; omega
    obtain ⟨g, hd, hg, hgm, hat⟩ := drop_at hlt
    have hfl := flat_take hat
    have hle2 := flat_le G (k + 1)
    have hlen : ((G.take (k + 1)).flatten.length : Int) = (G.take k).flatten.length + g.length := by rw [hfl, List.length_append]; omega
    have ew : IntKind.i64.wrap (((G.take k).flatten.length : Int) + (g.length : Int)) = ((G.take (k + 1)).flatten.length : Int) := by rw [hlen]; exact wI (by omega)
    simp only [nestD, hg, ew, vcb, ↓evSo_some, ↓reduceIte, reduceCtorEq, seval]
    repeat' first
        | refine And.intro (fun h => ?_) (fun h => ?_)
        | refine And.intro (by first | omega | (simp only [maxLen, decide_eq_true_eq, decide_eq_false_iff_not] at *; omega)) ?_
        | (refine TR.aslO rfl rfl rfl rfl trivial (Nat.le_of_ble_eq_true rfl) ?_
           try simp only [nestD, hg, ew, vcb, ↓evSo_some, ↓reduceIte, reduceCtorEq, seval])
        | refine And.intro trivial ?_
        | refine And.intro rfl ?_
        | fail
    all_goals first
      | (exfalso; have := of_decide_eq_true h; omega)
      | exact lopK.on (k + 1) hlt (by omega) (Wk.of _ hfn rfl (by simp only [gC, enb, vcb, ↓evSo_some, ↓reduceIte, reduceCtorEq, seval]; exact wS (by omega)) (by simp only [enb, vcb, ↓evSo_some, ↓reduceIte, reduceCtorEq, seval]))
  · have hkl : k = G.length := by have := of_decide_eq_false h1; omega
    subst hkl
    rw [List.take_length]
    have cg := sGrow G.flatten.length (by omega)
    simp only [rowC, vcb, ↓evSo_some, ↓reduceIte, reduceCtorEq, seval] at cg
    refine TR.call [] [(903, rowC [])] _ [903] (by rw [hP]; exact cg) (by repeat' first | exact trivial | (intro _; assumption) | apply And.intro) (by simp) (by simp [keysO]) (by simp) ?_
    simp only [vcb, ↓evSo_some, ↓reduceIte, reduceCtorEq, seval]
    refine vcC.loop (X := Nat) (fun k => ⟨[(6, .osl 903), (25, .d (gC G)), (26, .d (.int .i64 G.length)), (27, .d (.int .i64 k))], [(903, rowC (G.take k).flatten)], [903]⟩)
      (fun k => k ≤ G.length) (fun k => G.length - k) 0 (Nat.zero_le _) (Wk.of _ hfn rfl (by simp only [gC, enb, vcb, ↓evSo_some, ↓reduceIte, reduceCtorEq, seval]) (by simp only [rowC, List.take_zero, List.flatten_nil, enb, vcb, ↓evSo_some, ↓reduceIte, reduceCtorEq, seval])) ?_
    rintro k hk
    have hle := flat_le G k
    simp only [gC, rowC, vcb, ↓evSo_some, ↓reduceIte, reduceCtorEq, seval]
    refine ⟨fun h1 => ?_, fun h1 => ?_⟩
    · have hlt : k < G.length := by have := of_decide_eq_true h1; omega
      obtain ⟨g, hd, hg, hgm, hat⟩ := drop_at hlt
      have hfl := flat_take hat
      have hle2 := flat_le G (k + 1)
      have hlen : (G.take (k + 1)).flatten.length = (G.take k).flatten.length + g.length := by rw [hfl, List.length_append]
      have hbytes : ((G.take k).flatten.length + g.length) * 16 ≤ 140737488355328 := by omega
      have hmx : (G.take k).flatten.length + g.length ≤ maxLen := by simp only [maxLen]; omega
      simp only [nestD, hg, vcb, ↓evSo_some, ↓reduceIte, reduceCtorEq, seval]
      repeat' first
          | refine And.intro (fun h => ?_) (fun h => ?_)
          | refine And.intro (by first | omega | (simp only [maxLen, decide_eq_true_eq, decide_eq_false_iff_not] at *; omega)) ?_
          | (refine TR.aslO rfl rfl rfl rfl trivial (Nat.le_of_ble_eq_true rfl) ?_
             try simp only [nestD, hg, vcb, ↓evSo_some, ↓reduceIte, reduceCtorEq, seval])
          | refine And.intro trivial ?_
          | refine And.intro rfl ?_
          | fail
      exact lopK.on (k + 1) hlt (by omega) ((Wk.sw 33 903 _ hfn (by simp) (by simp)).trans (Wk.of _ hfn rfl (by simp only [gC, enb, vcb, ↓evSo_some, ↓reduceIte, reduceCtorEq, seval]; exact wS (by omega)) (by simp only [rowC, hfl, enb, vcb, ↓evSo_some, ↓reduceIte, reduceCtorEq, seval]; exact OLe.appL cC rfl (fun i hi => by rw [if_pos hi]) (fun i hi => by rw [if_neg (by omega), Nat.add_sub_cancel_left]))))
    · have hkl : k = G.length := by have := of_decide_eq_false h1; omega
      subst hkl
      rw [List.take_length]
      repeat' first
          | refine And.intro (fun h => ?_) (fun h => ?_)
          | refine And.intro (by first | omega | (simp only [maxLen, decide_eq_true_eq, decide_eq_false_iff_not] at *; omega)) ?_
          | (refine TR.aslO rfl rfl rfl rfl trivial (Nat.le_of_ble_eq_true rfl) ?_
             try simp only [vcb, ↓evSo_some, ↓reduceIte, reduceCtorEq, seval])
          | refine And.intro trivial ?_
          | refine And.intro rfl ?_
          | fail
      refine RetK.mk _ (Wk.pub 903 rfl) (by simp only [rs33, rsb, vcb, ↓evSo_some, ↓reduceIte, reduceCtorEq, seval]) ?_ trivial
      simp only [rs33, rsb, vcb, ↓evSo_some, ↓reduceIte, reduceCtorEq, seval, slC, enb, vcb, ↓evSo_some, ↓reduceIte, reduceCtorEq, seval]
set_option maxHeartbeats 2000000 in
theorem sSums (ts : List Tr) (G : List (List (Int × Int))) (ht : ts.length ≤ 1000000) (hG : G.length ≤ 1000000) (hF : G.flatten.length ≤ 1000000000) : Ctr Try.prog 17 [.d (slT ts), .d (gC G)] [] (.d (slK .i64 (sumsT ts G))) [] [] := by
  have cc := sConcat G hG hF
  simp only [gC, slC] at cc
  refine ctr_pure Try.func17 ok17 rfl cc17 cr17 Try.ntmps17 (by simp) rfl rfl ?_; intro c hP hfn; simp only [kc17, slT, gC, vcb, ↓evSo_some, ↓reduceIte, reduceCtorEq, seval]
  repeat' first
      | refine And.intro (fun h => ?_) (fun h => ?_)
      | refine And.intro (by first | omega | (simp only [maxLen, decide_eq_true_eq, decide_eq_false_iff_not] at *; omega)) ?_
      | (refine TR.aslO rfl rfl rfl rfl trivial (Nat.le_of_ble_eq_true rfl) ?_
         try simp only [vcb, ↓evSo_some, ↓reduceIte, reduceCtorEq, seval])
      | refine And.intro trivial ?_
      | refine And.intro rfl ?_
      | fail
  refine vcC.loop (X := List Int) (fun x => ⟨[(1, .d (gC G)), (5, .osl 12), (13, .d (slT ts)), (14, .d (.int .i64 ts.length)), (15, .d (.int .i64 x.length))], [(12, .row 3 1 ts.length (fun i => [.int .i64 (x.getD i 0)]))], [12]⟩)
    (fun x => x.length ≤ ts.length ∧ sumsT ts G = x ++ sumsT (ts.drop x.length) G) (fun x => ts.length - x.length) [] ⟨Nat.zero_le _, rfl⟩ (Wk.of _ hfn rfl (by simp only [slT, gC, enb, vcb, ↓evSo_some, ↓reduceIte, reduceCtorEq, seval]) (by simp only [enb, vcb, ↓evSo_some, ↓reduceIte, reduceCtorEq, seval]; exact OLe.row rfl fun i _ => by simp)) ?_
  rintro dn ⟨hk, he⟩
  simp only [slT, gC, vcb, ↓evSo_some, ↓reduceIte, reduceCtorEq, seval]
  refine ⟨fun h1 => ?_, fun h1 => ?_⟩
  · have hlt : dn.length < ts.length := by have := of_decide_eq_true h1; omega
    obtain ⟨t, hd, hg, htm, -⟩ := drop_at hlt
    rw [hd, sumsT_cons] at he
    simp only [hg, vcb, ↓evSo_some, ↓reduceIte, reduceCtorEq, seval]
    repeat' first
        | (first
            | refine TR.p hP (by first | exact cc) (by repeat' first | exact trivial | (intro _; assumption) | apply And.intro) ?_
            | refine TR.gp hP rfl (fun _ => by first | exact cc) (fun _ => by repeat' first | exact trivial | (intro _; assumption) | apply And.intro) ?_
            | refine TR.pv hP rfl (by first | exact cc) trivial (by repeat' first | exact trivial | (intro _; assumption) | apply And.intro) ?_
           try simp only [hg, vcb, ↓evSo_some, ↓reduceIte, reduceCtorEq, seval])
        | refine And.intro (fun h => ?_) (fun h => ?_)
        | refine And.intro (by first | omega | (simp only [maxLen, decide_eq_true_eq, decide_eq_false_iff_not] at *; omega)) ?_
        | (refine TR.aslO rfl rfl rfl rfl trivial (Nat.le_of_ble_eq_true rfl) ?_
           try simp only [hg, vcb, ↓evSo_some, ↓reduceIte, reduceCtorEq, seval])
        | refine And.intro trivial ?_
        | refine And.intro rfl ?_
        | fail
    generalize G.flatten = F at *
    refine vcC.loop (X := Nat) (fun k => ⟨[(1, .d (gC G)), (5, .osl 12), (6, .d (.int .i64 dn.length)), (7, .own 7 0), (13, .d (slT ts)), (14, .d (.int .i64 ts.length)), (15, .d (.int .i64 dn.length)), (21, .d (slC F)), (22, .d (.int .i64 F.length)), (23, .d (.int .i64 k))],
        [(12, .row 3 1 ts.length (fun i => [.int .i64 ((dn ++ [sumC t.id 0 (F.take k)]).getD i 0)])), (7, .fix (cT t))], [12, 7]⟩)
      (fun k => k ≤ F.length) (fun k => F.length - k) 0 (Nat.zero_le _) (Wk.of _ hfn rfl (by simp only [slT, gC, slC, enb, vcb, ↓evSo_some, ↓reduceIte, reduceCtorEq, seval]) ?_) ?_
    · simp only [cT, enb, vcb, ↓evSo_some, ↓reduceIte, reduceCtorEq, seval]
      refine OLe.row rfl fun i hi => ?_
      by_cases e : i < dn.length
      · simp [List.getElem?_append_left e]
      · by_cases e2 : i = dn.length
        · subst e2; simp [sumC]
        · rw [List.getD_eq_getElem?_getD, List.getElem?_eq_none (by omega), List.getD_eq_getElem?_getD, List.getElem?_eq_none (by simp; omega)]
    rintro k hk2
    simp only [slT, gC, slC, cT, cC, vcb, ↓evSo_some, ↓reduceIte, reduceCtorEq, seval]
    refine ⟨fun h2 => ?_, fun h2 => ?_⟩
    · have hlt2 : k < F.length := by have := of_decide_eq_true h2; omega
      obtain ⟨p, hd2, hg2, hpm, hat2⟩ := drop_at hlt2
      have htk : F.take (k + 1) = F.take k ++ [p] := by rw [List.take_add_one, hat2]; rfl
      have hacc : (dn ++ [sumC t.id 0 (F.take k)]).getD dn.length 0 = sumC t.id 0 (F.take k) := by simp
      simp only [hg2, vcb, ↓evSo_some, ↓reduceIte, reduceCtorEq, seval]
      repeat' first
          | refine And.intro (fun h => ?_) (fun h => ?_)
          | refine And.intro (by first | omega | (simp only [maxLen, decide_eq_true_eq, decide_eq_false_iff_not] at *; omega)) ?_
          | (refine TR.aslO rfl rfl rfl rfl trivial (Nat.le_of_ble_eq_true rfl) ?_
             try simp only [hg2, hacc, vcb, ↓evSo_some, ↓reduceIte, reduceCtorEq, seval])
          | refine And.intro trivial ?_
          | refine And.intro rfl ?_
          | fail
      · have hid : p.1 = t.id := by simpa using h
        refine lopK.on (k + 1) hlt2 (by omega) (Wk.of _ hfn rfl (by simp only [slT, gC, slC, enb, vcb, ↓evSo_some, ↓reduceIte, reduceCtorEq, seval]; exact wS (by omega)) ?_)
        simp only [cT, enb, vcb, ↓evSo_some, ↓reduceIte, reduceCtorEq, seval]
        refine OLe.row rfl fun i hi => ?_
        rw [htk, sumC_app]
        simp only [sumC, if_pos hid]
        by_cases e : i = dn.length
        · subst e; simp [putD]
        · rw [if_neg e]
          by_cases e3 : i < dn.length
          · simp [List.getElem?_append_left e3]
          · rw [List.getD_eq_getElem?_getD, List.getElem?_eq_none (by simp; omega), List.getD_eq_getElem?_getD, List.getElem?_eq_none (by simp; omega)]
      · have hid : ¬ p.1 = t.id := by simpa using h
        refine lopK.on (k + 1) hlt2 (by omega) (Wk.of _ hfn rfl (by simp only [slT, gC, slC, enb, vcb, ↓evSo_some, ↓reduceIte, reduceCtorEq, seval]; exact wS (by omega)) (by simp only [cT, htk, sumC_app, sumC, if_neg hid, enb, vcb, ↓evSo_some, ↓reduceIte, reduceCtorEq, seval]))
    · have hkl : k = F.length := by have := of_decide_eq_false h2; omega
      subst hkl
      rw [List.take_length]
      repeat' first
          | refine And.intro (fun h => ?_) (fun h => ?_)
          | refine And.intro (by first | omega | (simp only [maxLen, decide_eq_true_eq, decide_eq_false_iff_not] at *; omega)) ?_
          | (refine TR.aslO rfl rfl rfl rfl trivial (Nat.le_of_ble_eq_true rfl) ?_
             try simp only [vcb, ↓evSo_some, ↓reduceIte, reduceCtorEq, seval])
          | refine And.intro trivial ?_
          | refine And.intro rfl ?_
          | fail
      refine lopK.on (dn ++ [sumC t.id 0 F]) ⟨by simp; omega, by rw [he]; simp⟩ (by simp; omega) (Wk.of _ hfn rfl (by simp only [slT, gC, List.length_append, List.length_singleton, enb, vcb, ↓evSo_some, ↓reduceIte, reduceCtorEq, seval]; exact wS (by omega)) (by simp only [enb, vcb, ↓evSo_some, ↓reduceIte, reduceCtorEq, seval]))
  · have hkl : dn.length = ts.length := by have := of_decide_eq_false h1; omega
    rw [hkl, List.drop_length, sumsT_nil, List.append_nil] at he
    repeat' first
        | refine And.intro (fun h => ?_) (fun h => ?_)
        | refine And.intro (by first | omega | (simp only [maxLen, decide_eq_true_eq, decide_eq_false_iff_not] at *; omega)) ?_
        | (refine TR.aslO rfl rfl rfl rfl trivial (Nat.le_of_ble_eq_true rfl) ?_
           try simp only [vcb, ↓evSo_some, ↓reduceIte, reduceCtorEq, seval])
        | refine And.intro trivial ?_
        | refine And.intro rfl ?_
        | fail
    refine RetK.mk _ (Wk.pub 12 rfl) (by simp only [rs17, rsb, vcb, ↓evSo_some, ↓reduceIte, reduceCtorEq, seval]) ?_ trivial
    simp only [rs17, rsb, vcb, ↓evSo_some, ↓reduceIte, reduceCtorEq, seval]
    rw [he]
    exact VLe.sl hkl.symm (fun _ => rfl) id fun i hi => rfl
end Go.Proofs.Ytgpckelpmincmaa
end
section
set_option linter.unusedSimpArgs false
set_option linter.unusedVariables false
namespace Go.Proofs.Ytgpckelpmincmaa
set_option linter.unusedSimpArgs false
set_option linter.unusedVariables false
open Go.Bx
set_option maxRecDepth 10000
set_option maxHeartbeats 2000000 in
theorem rSameC (a b : List (List (Int × Int))) (ha : a.length ≤ 1000000) (hal : ∀ g, g ∈ a → g.length ≤ 1000000) (hb : b.length ≤ 1000000) (hbl : ∀ g, g ∈ b → g.length ≤ 1000000) : Ctr Try.prog 13 [.d (gC a), .d (gC b)] [] (.d (.bool (decide (a = b)))) [] [] := by
  refine ctr_pure Try.func13 ok13 rfl cc13 cr13 Try.ntmps13 (by simp) rfl rfl ?_; intro c hP hfn; simp only [kc13, gC, vcb, ↓evSo_some, ↓reduceIte, reduceCtorEq, seval]
  refine ⟨fun h => ?_, fun h => ?_⟩
  · have hn : a ≠ b := by rintro rfl; simp at h
    exact RetK.pure (by simp only [rs13, rsb, vcb, ↓evSo_some, ↓reduceIte, reduceCtorEq, seval]) (by (simp only [rs13, rsb, vcb, ↓evSo_some, ↓reduceIte, reduceCtorEq, seval, enb, vcb, ↓evSo_some, ↓reduceIte, reduceCtorEq, seval]) <;> (first | simp [hn]))
  have hab : a.length = b.length := by have h := eq_of_beq (show ((a.length : Int) == b.length) = true by simpa using h); omega
  clear h
  refine vcC.loop (X := Nat) (fun k => ⟨[(0, .d (gC a)), (1, .d (gC b)), (5, .d (.int .i64 k))], [], []⟩)
    (fun k => k ≤ a.length ∧ (a = b ↔ a.drop k = b.drop k)) (fun k => a.length - k) 0 ⟨Nat.zero_le _, by simp⟩ (Wk.of [] hfn rfl (by (simp only [gC, enb, vcb, ↓evSo_some, ↓reduceIte, reduceCtorEq, seval]) <;> (first | exact wS (by omega) | (rw [List.length_append]; exact wS (by omega)) | assumption)) (by simp only [enb, vcb, ↓evSo_some, ↓reduceIte, reduceCtorEq, seval])) ?_
  rintro k ⟨hk, he⟩
  simp only [gC, vcb, ↓evSo_some, ↓reduceIte, reduceCtorEq, seval]
  refine ⟨fun h1 => ?_, fun h1 => ?_⟩
  · have hlt : k < a.length := by have := of_decide_eq_true h1; omega
    obtain ⟨x, hd, hg, hxm, -⟩ := drop_at hlt
    obtain ⟨y, hd2, hg2, hym, -⟩ := drop_at (hab ▸ hlt)
    have hlx := hal x hxm
    have hly := hbl y hym
    rw [hd, hd2] at he
    simp only [nestD, hg, hg2, vcb, ↓evSo_some, ↓reduceIte, reduceCtorEq, seval]
    repeat' first
        | refine And.intro (fun h => ?_) (fun h => ?_)
        | refine And.intro (by first | omega | (simp only [maxLen, decide_eq_true_eq, decide_eq_false_iff_not] at *; omega)) ?_
        | (refine TR.aslO rfl rfl rfl rfl trivial (Nat.le_of_ble_eq_true rfl) ?_
           try simp only [nestD, hg, hg2, vcb, ↓evSo_some, ↓reduceIte, reduceCtorEq, seval])
        | refine And.intro trivial ?_
        | refine And.intro rfl ?_
        | fail
    · have hn : a ≠ b := fun e => by have := he.1 e; simp at this; simp [this.1] at h
      exact RetK.pure (by simp only [rs13, rsb, vcb, ↓evSo_some, ↓reduceIte, reduceCtorEq, seval]) (by (simp only [rs13, rsb, vcb, ↓evSo_some, ↓reduceIte, reduceCtorEq, seval, enb, vcb, ↓evSo_some, ↓reduceIte, reduceCtorEq, seval]) <;> (first | simp [hn]))
    have hxy : x.length = y.length := by have h := eq_of_beq (show ((x.length : Int) == y.length) = true by simpa using h); omega
    clear h
    refine vcC.loop (X := Nat) (fun m => ⟨[(0, .d (gC a)), (1, .d (gC b)), (5, .d (.int .i64 k)), (6, .d (.int .i64 m))], [], []⟩)
      (fun m => m ≤ x.length ∧ (x = y ↔ x.drop m = y.drop m)) (fun m => x.length - m) 0 ⟨Nat.zero_le _, by simp⟩ (Wk.of [] hfn rfl (by (simp only [gC, enb, vcb, ↓evSo_some, ↓reduceIte, reduceCtorEq, seval]) <;> (first | exact wS (by omega) | (rw [List.length_append]; exact wS (by omega)) | assumption)) (by simp only [enb, vcb, ↓evSo_some, ↓reduceIte, reduceCtorEq, seval])) ?_
    rintro m ⟨hm, hem⟩
    simp only [gC, nestD, hg, hg2, vcb, ↓evSo_some, ↓reduceIte, reduceCtorEq, seval]
    repeat' first
        | refine And.intro (fun h => ?_) (fun h => ?_)
        | refine And.intro (by first | omega | (simp only [maxLen, decide_eq_true_eq, decide_eq_false_iff_not] at *; omega)) ?_
        | (refine TR.aslO rfl rfl rfl rfl trivial (Nat.le_of_ble_eq_true rfl) ?_
           try simp only [nestD, hg, hg2, vcb, ↓evSo_some, ↓reduceIte, reduceCtorEq, seval])
        | refine And.intro trivial ?_
        | refine And.intro rfl ?_
        | fail
    · have hlt2 : m < x.length := by have := of_decide_eq_true h; omega
      obtain ⟨p, hp, hgp, hpm, -⟩ := drop_at hlt2
      obtain ⟨q, hq, hgq, hqm, -⟩ := drop_at (hxy ▸ hlt2)
      rw [hp, hq] at hem
      clear h
      simp only [nestD, hg, hg2, hgp, hgq, cC, vcb, ↓evSo_some, ↓reduceIte, reduceCtorEq, seval]
      repeat' first
          | refine And.intro (fun h => ?_) (fun h => ?_)
          | refine And.intro (by first | omega | (simp only [maxLen, decide_eq_true_eq, decide_eq_false_iff_not] at *; omega)) ?_
          | (refine TR.aslO rfl rfl rfl rfl trivial (Nat.le_of_ble_eq_true rfl) ?_
             try simp only [nestD, hg, hg2, hgp, hgq, cC, vcb, ↓evSo_some, ↓reduceIte, reduceCtorEq, seval])
          | refine And.intro trivial ?_
          | refine And.intro rfl ?_
          | fail
      · have hn : a ≠ b := fun e => by
          have h1 := he.1 e
          simp only [List.cons.injEq] at h1
          have h2 := hem.1 h1.1
          simp only [List.cons.injEq] at h2
          rw [h2.1] at h; simp at h
        exact RetK.pure (by simp only [rs13, rsb, vcb, ↓evSo_some, ↓reduceIte, reduceCtorEq, seval]) (by (simp only [rs13, rsb, vcb, ↓evSo_some, ↓reduceIte, reduceCtorEq, seval, enb, vcb, ↓evSo_some, ↓reduceIte, reduceCtorEq, seval]) <;> (first | simp [hn]))
      · refine lopK.on (m + 1) ⟨hlt2, ?_⟩ (by omega) (Wk.of [] hfn rfl (by (simp only [gC, enb, vcb, ↓evSo_some, ↓reduceIte, reduceCtorEq, seval]) <;> (first | exact wS (by omega) | (rw [List.length_append]; exact wS (by omega)) | assumption)) (by simp only [enb, vcb, ↓evSo_some, ↓reduceIte, reduceCtorEq, seval]))
        have hpq : p = q := by
          obtain ⟨p1, p2⟩ := p
          obtain ⟨q1, q2⟩ := q
          simp at h
          rw [h.1, h.2]
        rw [hem, hpq]; simp
    · have hml : m = x.length := by have := of_decide_eq_false h; omega
      have hxy2 : x = y := hem.2 (by rw [hml]; simp [hxy])
      refine lopK.on (k + 1) ⟨hlt, ?_⟩ (by omega) (Wk.of [] hfn rfl (by (simp only [gC, enb, vcb, ↓evSo_some, ↓reduceIte, reduceCtorEq, seval]) <;> (first | exact wS (by omega) | (rw [List.length_append]; exact wS (by omega)) | assumption)) (by simp only [enb, vcb, ↓evSo_some, ↓reduceIte, reduceCtorEq, seval]))
      rw [he, hxy2]; simp
  · have hkl : k = a.length := by have := of_decide_eq_false h1; omega
    have : a = b := he.2 (by rw [hkl]; simp [hab])
    exact RetK.pure (by simp only [rs13, rsb, vcb, ↓evSo_some, ↓reduceIte, reduceCtorEq, seval]) (by (simp only [rs13, rsb, vcb, ↓evSo_some, ↓reduceIte, reduceCtorEq, seval, enb, vcb, ↓evSo_some, ↓reduceIte, reduceCtorEq, seval]) <;> (first | simp [this]))
end Go.Proofs.Ytgpckelpmincmaa
end
section
set_option linter.unusedSimpArgs false
set_option linter.unusedVariables false
namespace Go.Proofs.Ytgpckelpmincmaa
set_option linter.unusedSimpArgs false
set_option linter.unusedVariables false
open Go.Bx
set_option maxRecDepth 10000
set_option maxHeartbeats 8000000 in
theorem sTOf (ts : List Tr) (l : List Ls) (ht : ts.length ≤ 1000) (hl : l.length ≤ 1000000) :
    Ctr Try.prog 11 [.d (slT ts), .d (slX l)] [] (.tup [.d (.sl false 1 (ofT ts l).1.length (nestD (0, 0) cC 2 (ofT ts l).1)), .d (slK .i64 (ofT ts l).2.1), .d (.int .i64 (ofT ts l).2.2)]) [] [] := by
  have cm := sMay ts l ht (by omega)
  have cc := (sCloneX l hl).sw 7 900
  have cd := sCloneD l hl
  have co := sOrder ts ht
  simp only [slT, slX, slK] at cm cd co
  simp only [slX, rowX, vcb, ↓evSo_some, ↓reduceIte, reduceCtorEq, seval] at cc
  refine ctr_pure Try.func11 ok11 rfl cc11 cr11 Try.ntmps11 (by simp) rfl rfl ?_; intro c hP hfn; simp only [kc11, slT, slX, vcb, ↓evSo_some, ↓reduceIte, reduceCtorEq, seval]
  repeat' first
      | (first
          | refine TR.p hP (by first | exact cm) (by repeat' first | exact trivial | (intro _; assumption) | apply And.intro) ?_
          | refine TR.gp hP rfl (fun _ => by first | exact cm) (fun _ => by repeat' first | exact trivial | (intro _; assumption) | apply And.intro) ?_
          | refine TR.pv hP rfl (by first | exact cm) trivial (by repeat' first | exact trivial | (intro _; assumption) | apply And.intro) ?_
         try simp only [vcb, ↓evSo_some, ↓reduceIte, reduceCtorEq, seval])
      | refine And.intro (fun h => ?_) (fun h => ?_)
      | refine And.intro (by first | omega | (simp only [maxLen, decide_eq_true_eq, decide_eq_false_iff_not] at *; omega)) ?_
      | (refine TR.aslO rfl rfl rfl rfl trivial (Nat.le_of_ble_eq_true rfl) ?_
         try simp only [vcb, ↓evSo_some, ↓reduceIte, reduceCtorEq, seval])
      | refine And.intro trivial ?_
      | refine And.intro rfl ?_
      | fail
  · have h' : mayT ts l ≠ 0 := by simpa using h
    have e : ofT ts l = ([], [], mayT ts l) := by rw [ofT, if_pos h']
    (refine RetK.pure (by simp only [rs11, rsb, vcb, ↓evSo_some, ↓reduceIte, reduceCtorEq, seval]) (VLe.tups ?_); simp only [rs11, rsb, vcb, ↓evSo_some, ↓reduceIte, reduceCtorEq, seval])
    rw [e]; exact ⟨VLe.nil rfl (by simp), nilK, VLe.refl _, trivial⟩
  have h0 : mayT ts l = 0 := by simpa using h
  clear h
  obtain ⟨hR, hX, hts, hls, -, -⟩ := may_ok h0
  have hof : ofT ts l = ((towerT ts l).2, (towerT ts l).1, 0) := by rw [ofT, if_neg (by simp [h0])]
  have homem := order_mem ts
  have holen : (orderT ts).length ≤ 1000 := by
    rw [orderT_eq, List.length_map]
    have := (ordP_ok ts).2.length_eq
    have := plsT_len ts 0
    omega
  refine TR.call [] [(900, rowX l)] _ [900] (by rw [hP]; exact cc) (by repeat' first | exact trivial | (intro _; assumption) | apply And.intro) (by simp) (by simp [keysO]) (by simp) ?_
  simp only [vcb, ↓evSo_some, ↓reduceIte, reduceCtorEq, seval]
  repeat' first
      | (first
          | refine TR.p hP (by first | exact cd | exact co) (by repeat' first | exact trivial | (intro _; assumption) | apply And.intro) ?_
          | refine TR.gp hP rfl (fun _ => by first | exact cd | exact co) (fun _ => by repeat' first | exact trivial | (intro _; assumption) | apply And.intro) ?_
          | refine TR.pv hP rfl (by first | exact cd | exact co) trivial (by repeat' first | exact trivial | (intro _; assumption) | apply And.intro) ?_
         try simp only [vcb, ↓evSo_some, ↓reduceIte, reduceCtorEq, seval])
      | refine And.intro (fun h => ?_) (fun h => ?_)
      | refine And.intro (by first | omega | (simp only [maxLen, decide_eq_true_eq, decide_eq_false_iff_not] at *; omega)) ?_
      | (refine TR.aslO rfl rfl rfl rfl trivial (Nat.le_of_ble_eq_true rfl) ?_
         try simp only [vcb, ↓evSo_some, ↓reduceIte, reduceCtorEq, seval])
      | refine And.intro trivial ?_
      | refine And.intro rfl ?_
      | fail
  refine vcC.loop (X := Nat × Sw × List Ls × Int) (fun x => ofSt ts l x.2.2.1 x.2.2.2 x.1 x.2.1 [] [] [])
    (fun x => x.1 ≤ (orderT ts).length ∧ SwI l x.1 0 x.2.1 ∧ RdOk l x.2.2.1 ∧ x.2.2.1.length = l.length ∧ (∀ y, y ∈ x.2.2.1 → lossX y = true) ∧ towerT ts l = twr l ts ((orderT ts).drop x.1) x.2.1 x.2.2.1 x.2.2.2) (fun x => (orderT ts).length - x.1) (0, sw0 l, l, 1)
    ⟨Nat.zero_le _, sw0_ok l hX, RdOk.self hX, rfl, hX, rfl⟩ (Wk.ofI hfn (by simp only [ofE, slT, slX, slK, enb, vcb, ↓evSo_some, ↓reduceIte, reduceCtorEq, seval]) (by simp only [OwnLeS, rowX, enb, vcb, ↓evSo_some, ↓reduceIte, reduceCtorEq, seval]) (by simp only [enb, vcb, ↓evSo_some, ↓reduceIte, reduceCtorEq, seval])) ?_
  rintro ⟨k, s, rd, kd⟩ ⟨hk, hI, hro, hrl, hrx, he⟩
  simp only at hk hI hro hrl hrx he
  simp only [ofSt, ofE, slT, slX, slK, rowX, List.append_nil, List.cons_append, List.nil_append, vcb, ↓evSo_some, ↓reduceIte, reduceCtorEq, seval]
  refine ⟨fun h1 => ?_, fun h1 => ?_⟩
  · have hlt : k < (orderT ts).length := by have := of_decide_eq_true h1; omega
    obtain ⟨q, hd, hgq, hqm, -⟩ := drop_at hlt
    have hq := homem q hqm
    obtain ⟨iq, rfl⟩ : ∃ iq : Nat, q = (iq : Int) := ⟨q.toNat, by omega⟩
    have hit : iq < ts.length := by omega
    obtain ⟨t, -, hgt, htm, -⟩ := drop_at hit
    have hRt := hR t htm
    rw [hd, twr, Int.toNat_natCast, hgt] at he
    have ewk : IntKind.i64.wrap ((k : Int) + 1) = ((k + 1 : Nat) : Int) := wS (by omega)
    simp only [hgq, hgt, own?_setO, own?_nestD, mem_nmN, vcb, ↓evSo_some, ↓reduceIte, reduceCtorEq, seval]
    repeat' first
        | refine And.intro (fun h => ?_) (fun h => ?_)
        | refine And.intro (by first | omega | (simp only [maxLen, decide_eq_true_eq, decide_eq_false_iff_not] at *; omega)) ?_
        | (refine TR.aslO rfl rfl rfl rfl trivial (Nat.le_of_ble_eq_true rfl) ?_
           try simp only [hgq, hgt, own?_setO, own?_nestD, mem_nmN, Int.toNat_natCast, vcb, ↓evSo_some, ↓reduceIte, reduceCtorEq, seval])
        | refine And.intro trivial ?_
        | refine And.intro rfl ?_
        | fail
    · have hkd : t.kind ≠ kd := by simpa using h
      simp only [hkd, ne_eq, not_false_eq_true, if_true] at he
      have hbase : ∀ y, y ∈ withX l s.1 → lossX y = true := with_right hI.la hX hI.am
      have hbl : (withX l s.1).length = l.length := with_len hI.la
      have ce := (sCloneE (withX l s.1) (by omega)).sw 1 900
      simp only [rowX, slX, vcb, ↓evSo_some, ↓reduceIte, reduceCtorEq, seval] at ce
      refine TR.keep [900] (.d (slX (withX l s.1))) (valid_keep (ins := [(900, rowX (withX l s.1))]) (valid_call (by rw [hP]; exact ce) (by repeat' first | exact trivial | (intro _; assumption) | apply And.intro) (hin1 rfl) (by simp [keysO])) (hin1 rfl) (by simp [keysO]) (by simp [keysO])) ?_
      clear h ce
      simp only [slX, own?_setO, own?_nestD, mem_nmN, vcb, ↓evSo_some, ↓reduceIte, reduceCtorEq, seval]
      have cb := sTBears t (withX l s.1) (by omega)
      simp only [vT, cT, slX, slK] at cb
      obtain ⟨hb1, hb2, -, -⟩ := rd_bears hX hls (show RdOk l (withX l s.1) from RdOk.next hI) hRt
      repeat' first
          | (first
              | refine TR.p hP (by first | exact cb) (by repeat' first | exact trivial | (intro _; assumption) | apply And.intro) ?_
              | refine TR.gp hP rfl (fun _ => by first | exact cb) (fun _ => by repeat' first | exact trivial | (intro _; assumption) | apply And.intro) ?_
              | refine TR.pv hP rfl (by first | exact cb) trivial (by repeat' first | exact trivial | (intro _; assumption) | apply And.intro) ?_
             try simp only [own?_setO, own?_nestD, own?_delC, own?_delC1, own?_delC2, ne_lo', ne_hi, mem_nmN, vcb, ↓evSo_some, ↓reduceIte, reduceCtorEq, seval])
          | refine And.intro (fun h => ?_) (fun h => ?_)
          | refine And.intro (by first | omega | (simp only [maxLen, decide_eq_true_eq, decide_eq_false_iff_not] at *; omega)) ?_
          | (refine TR.aslO rfl rfl rfl rfl trivial (Nat.le_of_ble_eq_true rfl) ?_
             try simp only [own?_setO, own?_nestD, own?_delC, own?_delC1, own?_delC2, ne_lo', ne_hi, mem_nmN, vcb, ↓evSo_some, ↓reduceIte, reduceCtorEq, seval])
          | refine And.intro trivial ?_
          | refine And.intro rfl ?_
          | fail
      generalize hb : bearsA t (withX l s.1) = b at *
      have hsl := hI.lg
      refine vcC.loop (X := Nat × Sw) (fun x => ofSt ts l (withX l s.1) t.kind k x.2 [(14, .own 14 0), (54, .d (slK .i64 b)), (55, .d (.int .i64 b.length)), (56, .d (.int .i64 x.1))] [(14, .fix (cT t))] [14])
        (fun x => x.1 ≤ b.length ∧ SwI l k x.1 x.2 ∧ swe t.id b s = swpR t.id b (b.length - x.1) x.1 x.2) (fun x => b.length - x.1) (0, s) ⟨Nat.zero_le _, hI, rfl⟩
        (Wk.of0 hfn rfl rfl (by simp only [ofE, slT, slX, slK, own?_setO, own?_nestD, own?_delC, own?_delC1, own?_delC2, ne_lo', ne_hi, mem_nmN, List.cons_append, List.nil_append, enb, vcb, ↓evSo_some, ↓reduceIte, reduceCtorEq, seval]) (by simp only [OwnLeS, rowX, cT, own?_setO, own?_nestD, own?_delC, own?_delC1, own?_delC2, ne_lo', ne_hi, mem_nmN, List.cons_append, List.nil_append, enb, vcb, ↓evSo_some, ↓reduceIte, reduceCtorEq, seval]) (by simp only [own?_setO, own?_nestD, own?_delC, own?_delC1, own?_delC2, ne_lo', ne_hi, mem_nmN, enb, vcb, ↓evSo_some, ↓reduceIte, reduceCtorEq, seval]) (fun j => by simp only [own?_setO, own?_nestD, own?_delC, own?_delC1, own?_delC2, ne_lo', ne_hi, mem_nmN, enb, vcb, ↓evSo_some, ↓reduceIte, reduceCtorEq, seval])) ?_
      rintro ⟨i, s1⟩ ⟨hi, hI1, he1⟩
      simp only at hi hI1 he1
      have hsl1 := hI1.lg
      have hwl : (withX l s1.1).length = l.length := with_len hI1.la
      simp only [ofSt, ofE, slT, slX, slK, rowX, cT, List.cons_append, List.nil_append, vcb, ↓evSo_some, ↓reduceIte, reduceCtorEq, seval]
      refine ⟨fun h2 => ?_, fun h2 => ?_⟩
      · have hi2 : i < b.length := by have := of_decide_eq_true h2; omega
        have hil : i < l.length := by omega
        have hbi := hb2 i
        have ham := hI1.am i
        have hbd : (l.getD i default).amt ≤ 1000000000000000 := by
          have := lossX_iff.1 (hX (l.getD i default) (by rw [List.getD_eq_getElem?_getD, List.getElem?_eq_getElem hil]; exact List.getElem_mem hil))
          omega
        have hwa : ((withX l s1.1).getD i default).amt = s1.1.getD i 0 := by rw [with_get hI1.la]
        have ewi : IntKind.i64.wrap ((i : Int) + 1) = ((i + 1 : Nat) : Int) := wS (by omega)
        have ew : IntKind.i64.wrap (s1.1.getD i 0 - min (b.getD i 0) (s1.1.getD i 0)) = s1.1.getD i 0 - min (b.getD i 0) (s1.1.getD i 0) := wI (by omega)
        have hI2 := hI1.step t.id (b := b) hil hbi
        rw [show b.length - i = (b.length - (i + 1)) + 1 by omega, swpR] at he1
        have hrow : ∀ q, q < (withX l s1.1).length → (if q = i then putD [.int .i64 ((withX l s1.1).getD i default).cl, .int .i64 ((withX l s1.1).getD i default).ev, .int .i64 ((withX l s1.1).getD i default).day, .int .i64 ((withX l s1.1).getD i default).per, .int .i64 (s1.1.getD i 0)] 4 [.int .i64 (s1.1.getD i 0 - min (b.getD i 0) (s1.1.getD i 0))]
            else [.int .i64 ((withX l s1.1).getD q default).cl, .int .i64 ((withX l s1.1).getD q default).ev, .int .i64 ((withX l s1.1).getD q default).day, .int .i64 ((withX l s1.1).getD q default).per, .int .i64 ((withX l s1.1).getD q default).amt] : List D) =
            [.int .i64 ((withX l (s1.1.set i (s1.1.getD i 0 - min (b.getD i 0) (s1.1.getD i 0)))).getD q default).cl, .int .i64 ((withX l (s1.1.set i (s1.1.getD i 0 - min (b.getD i 0) (s1.1.getD i 0)))).getD q default).ev, .int .i64 ((withX l (s1.1.set i (s1.1.getD i 0 - min (b.getD i 0) (s1.1.getD i 0)))).getD q default).day,
              .int .i64 ((withX l (s1.1.set i (s1.1.getD i 0 - min (b.getD i 0) (s1.1.getD i 0)))).getD q default).per, .int .i64 ((withX l (s1.1.set i (s1.1.getD i 0 - min (b.getD i 0) (s1.1.getD i 0)))).getD q default).amt] := fun q hq => by
          rw [hwl] at hq
          rw [with_get hI1.la, with_get (a := s1.1.set i _) (by rw [List.length_set]; exact hI1.la), with_get hI1.la, getD_set (by rw [hI1.la]; exact hil)]
          by_cases e : q = i
          · subst e; simp [putD]
          · rw [if_neg e, if_neg (fun h => e h.symm)]
        have hwl2 : (withX l (s1.1.set i (s1.1.getD i 0 - min (b.getD i 0) (s1.1.getD i 0)))).length = (withX l s1.1).length := by rw [hwl]; exact with_len (by rw [List.length_set]; exact hI1.la)
        simp only [hwa, ew, own?_setO, own?_nestD, own?_delC, own?_delC1, own?_delC2, ne_lo', ne_hi, mem_nmN, vcb, ↓evSo_some, ↓reduceIte, reduceCtorEq, seval]
        repeat' first
            | refine And.intro (fun h => ?_) (fun h => ?_)
            | refine And.intro (by first | omega | (simp only [maxLen, decide_eq_true_eq, decide_eq_false_iff_not] at *; omega)) ?_
            | (refine TR.aslO rfl rfl rfl rfl trivial (Nat.le_of_ble_eq_true rfl) ?_
               try simp only [hwa, ew, own?_setO, own?_nestD, own?_delC, own?_delC1, own?_delC2, ne_lo', ne_hi, mem_nmN, vcb, ↓evSo_some, ↓reduceIte, reduceCtorEq, seval])
            | refine And.intro trivial ?_
            | refine And.intro rfl ?_
            | fail
        · have hm : 0 < (min (b.getD i 0) (s1.1.getD i 0)) := by have := of_decide_eq_true h; omega
          clear h
          have hil2 : i < s1.2.length := by omega
          have hgi : s1.2[i]? = some s1.2[i] := List.getElem?_eq_getElem hil2
          have hgd : s1.2.getD i [] = s1.2[i] := by rw [List.getD_eq_getElem?_getD, hgi]; rfl
          have hgl := hI1.gl i _ hgi
          rw [if_neg (Nat.lt_irrefl i)] at hgl
          have hsw : swpS t.id b i s1 = (s1.1.set i (s1.1.getD i 0 - (min (b.getD i 0) (s1.1.getD i 0))), s1.2.set i (s1.2[i] ++ [(t.id, (min (b.getD i 0) (s1.1.getD i 0)))])) := by rw [swpS, if_pos hm, hgd]
          rw [hsw] at he1 hI2
          generalize s1.2[i] = g at *
          have hnth := nestC_nth (dx := ((0, 0) : Int × Int)) (cells := cC) (K := 5000) (τ := 0) (sz := 2) (i := 0) hgi
          rw [Nat.zero_add] at hnth
          have hfin : ∀ (st : St), EnvLe (renE (Go.Bx.sw 90 (5000 + i)) st.env) (ofE ts l (withX l s.1) t.kind k ++ [(14, .own 14 0), (54, .d (slK .i64 b)), (55, .d (.int .i64 b.length)), (56, .d (.int .i64 ((i + 1 : Nat) : Int)))]) →
              OwnLeS (Go.Bx.sw 90 (5000 + i)) st.own ([(900, rowX (withX l (s1.1.set i (s1.1.getD i 0 - (min (b.getD i 0) (s1.1.getD i 0))))))] ++ [(14, .fix (cT t))]) → own? st.own 30 = some (.lit 35 1 s1.2.length (putV (nCC s1.2) i [.osl 90])) →
              (∃ n F, own? st.own 90 = some (.row 37 2 n F) ∧ n = g.length + 1 ∧ ∀ q, q < g.length + 1 → F q = cC ((g ++ [(t.id, (min (b.getD i 0) (s1.1.getD i 0)))]).getD q (0, 0))) →
              (∀ j, j ≠ i → own? st.own (5000 + j) = own? (nOC s1.2) (5000 + j)) →
              Wk c st (ofSt ts l (withX l s.1) t.kind k (s1.1.set i (s1.1.getD i 0 - (min (b.getD i 0) (s1.1.getD i 0))), s1.2.set i (g ++ [(t.id, (min (b.getD i 0) (s1.1.getD i 0)))])) [(14, .own 14 0), (54, .d (slK .i64 b)), (55, .d (.int .i64 b.length)), (56, .d (.int .i64 ((i + 1 : Nat) : Int)))] [(14, .fix (cT t))] [14]) := fun st q1 q2 q3 q4 q5 => by
            obtain ⟨n, F, q6, q7, q8⟩ := q4
            have := Wk.nestPush (c := c) (st := st) (dx := ((0, 0) : Int × Int)) (cells := cC) (K := 5000) (K' := 30) (τ := 0) (e' := 35) (e := 37) (sz := 2) (G := s1.2) 90 i (g ++ [(t.id, (min (b.getD i 0) (s1.1.getD i 0)))]) [] hfn (by omega) (by omega) (by omega) (by simp) (by simp) (N := [30, 900, 14]) rfl rfl q1 q2 hil2 (by simp) q3 ⟨n, F, q6, by simp; omega, fun q hq => q8 q (by simpa using hq)⟩ q5
            unfold ofSt
            simp only [List.length_set]
            exact this
          by_cases hg0 : g.length ≤ 0
          · rw [if_pos hg0] at hnth
            have hgn : g = [] := List.eq_nil_of_length_eq_zero (by omega)
            subst hgn
            simp only [hnth, List.length_nil, own?_setO, own?_nestD, own?_delC, own?_delC1, own?_delC2, ne_lo', ne_hi, mem_nmN, vcb, ↓evSo_some, ↓reduceIte, reduceCtorEq, seval]
            repeat' first
                | refine And.intro (fun h => ?_) (fun h => ?_)
                | refine And.intro (by first | omega | (simp only [maxLen, decide_eq_true_eq, decide_eq_false_iff_not] at *; omega)) ?_
                | (refine TR.aslO rfl rfl rfl rfl trivial (Nat.le_of_ble_eq_true rfl) ?_
                   try simp only [hnth, own?_setO, own?_nestD, own?_delC, own?_delC1, own?_delC2, ne_lo', ne_hi, mem_nmN, vcb, ↓evSo_some, ↓reduceIte, reduceCtorEq, seval])
                | refine And.intro trivial ?_
                | refine And.intro rfl ?_
                | fail
            refine lopK.on (i + 1, (s1.1.set i (s1.1.getD i 0 - (min (b.getD i 0) (s1.1.getD i 0))), s1.2.set i ([] ++ [(t.id, (min (b.getD i 0) (s1.1.getD i 0)))]))) ⟨hi2, hI2, he1⟩ (by simp only; omega) ?_
            refine (hfin _ (by simp only [ofE, slT, slX, slK, ewi, own?_setO, own?_nestD, own?_delC, own?_delC1, own?_delC2, ne_lo', ne_hi, mem_nmN, List.cons_append, List.nil_append, enb, vcb, ↓evSo_some, ↓reduceIte, reduceCtorEq, seval]) (by simp only [OwnLeS, rowX, cT, hwl2, own?_setO, own?_nestD, own?_delC, own?_delC1, own?_delC2, ne_lo', ne_hi, mem_nmN, List.cons_append, List.nil_append, enb, vcb, ↓evSo_some, ↓reduceIte, reduceCtorEq, seval]; exact OLe.row rfl hrow) (by simp only [own?_setO, own?_nestD, own?_delC, own?_delC1, own?_delC2, ne_lo', ne_hi, mem_nmN, enb, vcb, ↓evSo_some, ↓reduceIte, reduceCtorEq, seval]) ⟨_, _, by simp only [own?_setO, own?_nestD, own?_delC, own?_delC1, own?_delC2, ne_lo', ne_hi, mem_nmN, enb, vcb, ↓evSo_some, ↓reduceIte, reduceCtorEq, seval]; rfl, by simp, fun q hq => ?_⟩ (fun j hj => ?_))
            · have e0 : q = 0 := by simp at hq; omega
              subst e0
              simp [litRow, cC]
            · have hji : (5000 + j = 5000 + i) = False := eq_false (by omega)
              simp only [hji, own?_setO, own?_nestD, own?_delC, own?_delC1, own?_delC2, ne_lo', ne_hi, mem_nmN, enb, vcb, ↓evSo_some, ↓reduceIte, reduceCtorEq, seval]
          · rw [if_neg hg0] at hnth
            have hrw := nC_at hgi (by omega)
            simp only [hnth, hrw, own?_setO, own?_nestD, own?_delC, own?_delC1, own?_delC2, ne_lo', ne_hi, mem_nmN, vcb, ↓evSo_some, ↓reduceIte, reduceCtorEq, seval]
            repeat' first
                | refine And.intro (fun h => ?_) (fun h => ?_)
                | refine And.intro (by first | omega | (simp only [maxLen, decide_eq_true_eq, decide_eq_false_iff_not] at *; omega)) ?_
                | (refine TR.aslO rfl rfl rfl rfl trivial (Nat.le_of_ble_eq_true rfl) ?_
                   try simp only [hnth, hrw, own?_setO, own?_nestD, own?_delC, own?_delC1, own?_delC2, ne_lo', ne_hi, mem_nmN, vcb, ↓evSo_some, ↓reduceIte, reduceCtorEq, seval])
                | refine And.intro trivial ?_
                | refine And.intro rfl ?_
                | fail
            refine ⟨by (simp [ownOk, meetL, hitL, inAnc, List.range, List.range.loop, ne_lo', ne_hi]; decide), ?_⟩
            refine lopK.on (i + 1, (s1.1.set i (s1.1.getD i 0 - (min (b.getD i 0) (s1.1.getD i 0))), s1.2.set i (g ++ [(t.id, (min (b.getD i 0) (s1.1.getD i 0)))]))) ⟨hi2, hI2, he1⟩ (by simp only; omega) ?_
            refine (hfin _ (by simp only [ofE, slT, slX, slK, ewi, own?_setO, own?_nestD, own?_delC, own?_delC1, own?_delC2, ne_lo', ne_hi, mem_nmN, List.cons_append, List.nil_append, enb, vcb, ↓evSo_some, ↓reduceIte, reduceCtorEq, seval]) (by simp only [OwnLeS, rowX, cT, hwl2, own?_setO, own?_nestD, own?_delC, own?_delC1, own?_delC2, ne_lo', ne_hi, mem_nmN, List.cons_append, List.nil_append, enb, vcb, ↓evSo_some, ↓reduceIte, reduceCtorEq, seval]; exact OLe.row rfl hrow) (by simp only [own?_setO, own?_nestD, own?_delC, own?_delC1, own?_delC2, ne_lo', ne_hi, mem_nmN, enb, vcb, ↓evSo_some, ↓reduceIte, reduceCtorEq, seval]) ⟨_, _, by simp only [own?_setO, own?_nestD, own?_delC, own?_delC1, own?_delC2, ne_lo', ne_hi, mem_nmN, enb, vcb, ↓evSo_some, ↓reduceIte, reduceCtorEq, seval]; rfl, by simp, fun q hq => ?_⟩ (fun j hj => ?_))
            · by_cases e : q < g.length
              · simp [e, cC, List.getElem?_append_left e]
              · have e2 : q = g.length := by omega
                subst e2
                simp [litRow, cC]
            · have hji : (5000 + j = 5000 + i) = False := eq_false (by omega)
              simp only [hji, own?_setO, own?_nestD, own?_delC, own?_delC1, own?_delC2, ne_lo', ne_hi, mem_nmN, enb, vcb, ↓evSo_some, ↓reduceIte, reduceCtorEq, seval]
        · have hm : ¬ 0 < (min (b.getD i 0) (s1.1.getD i 0)) := by have := of_decide_eq_false h; omega
          have hsw : swpS t.id b i s1 = (s1.1.set i (s1.1.getD i 0 - (min (b.getD i 0) (s1.1.getD i 0))), s1.2) := by rw [swpS, if_neg hm]
          rw [hsw] at he1 hI2
          refine lopK.on (i + 1, (s1.1.set i (s1.1.getD i 0 - (min (b.getD i 0) (s1.1.getD i 0))), s1.2)) ⟨hi2, hI2, he1⟩ (by simp only; omega) ?_
          exact (Wk.of0 (ts := ts) (l := l) (rd := (withX l s.1)) (kd := t.kind) (k := k) (s := (s1.1.set i (s1.1.getD i 0 - (min (b.getD i 0) (s1.1.getD i 0))), s1.2)) (ex := [(14, .own 14 0), (54, .d (slK .i64 b)), (55, .d (.int .i64 b.length)), (56, .d (.int .i64 ((i + 1 : Nat) : Int)))]) (ox := [(14, .fix (cT t))]) (nx := [14]) hfn rfl rfl (by simp only [ofE, slT, slX, slK, ewi, own?_setO, own?_nestD, own?_delC, own?_delC1, own?_delC2, ne_lo', ne_hi, mem_nmN, List.cons_append, List.nil_append, enb, vcb, ↓evSo_some, ↓reduceIte, reduceCtorEq, seval]) (by simp only [OwnLeS, rowX, cT, hwl2, own?_setO, own?_nestD, own?_delC, own?_delC1, own?_delC2, ne_lo', ne_hi, mem_nmN, List.cons_append, List.nil_append, enb, vcb, ↓evSo_some, ↓reduceIte, reduceCtorEq, seval]; exact OLe.row rfl hrow) (by simp only [own?_setO, own?_nestD, own?_delC, own?_delC1, own?_delC2, ne_lo', ne_hi, mem_nmN, enb, vcb, ↓evSo_some, ↓reduceIte, reduceCtorEq, seval]) (fun j => by simp only [own?_setO, own?_nestD, own?_delC, own?_delC1, own?_delC2, ne_lo', ne_hi, mem_nmN, enb, vcb, ↓evSo_some, ↓reduceIte, reduceCtorEq, seval]))
      · have hib : i = b.length := by have := of_decide_eq_false h2; omega
        rw [hib, Nat.sub_self, swpR] at he1
        rw [he1] at he
        subst hib
        rw [hb1] at hI1
        have hI2 := hI1.next
        repeat' first
            | refine And.intro (fun h => ?_) (fun h => ?_)
            | refine And.intro (by first | omega | (simp only [maxLen, decide_eq_true_eq, decide_eq_false_iff_not] at *; omega)) ?_
            | (refine TR.aslO rfl rfl rfl rfl trivial (Nat.le_of_ble_eq_true rfl) ?_
               try simp only [own?_setO, own?_nestD, own?_delC, own?_delC1, own?_delC2, ne_lo', ne_hi, mem_nmN, vcb, ↓evSo_some, ↓reduceIte, reduceCtorEq, seval])
            | refine And.intro trivial ?_
            | refine And.intro rfl ?_
            | fail
        refine lopK.on (k + 1, s1, (withX l s.1), t.kind) ⟨hlt, hI2, RdOk.next hI, hbl, hbase, he⟩ (by simp only; omega) ?_
        exact Wk.of0 (ts := ts) (l := l) (rd := (withX l s.1)) (kd := t.kind) (k := k + 1) (s := s1) (ex := []) (ox := []) (nx := []) hfn rfl rfl (by simp only [ofE, slT, slX, slK, ewk, own?_setO, own?_nestD, own?_delC, own?_delC1, own?_delC2, ne_lo', ne_hi, mem_nmN, List.cons_append, List.nil_append, List.append_nil, enb, vcb, ↓evSo_some, ↓reduceIte, reduceCtorEq, seval]) (by simp only [OwnLeS, rowX, own?_setO, own?_nestD, own?_delC, own?_delC1, own?_delC2, ne_lo', ne_hi, mem_nmN, List.cons_append, List.nil_append, List.append_nil, enb, vcb, ↓evSo_some, ↓reduceIte, reduceCtorEq, seval]) (by simp only [own?_setO, own?_nestD, own?_delC, own?_delC1, own?_delC2, ne_lo', ne_hi, mem_nmN, enb, vcb, ↓evSo_some, ↓reduceIte, reduceCtorEq, seval]) (fun j => by simp only [own?_setO, own?_nestD, own?_delC, own?_delC1, own?_delC2, ne_lo', ne_hi, mem_nmN, enb, vcb, ↓evSo_some, ↓reduceIte, reduceCtorEq, seval])
    · have hkd : t.kind = kd := by simpa using h
      simp only [hkd, ne_eq, not_true_eq_false, if_false] at he
      subst hkd
      have hbase := hrx
      have hbl := hrl
      clear h
      have cb := sTBears t (rd) (by omega)
      simp only [vT, cT, slX, slK] at cb
      obtain ⟨hb1, hb2, -, -⟩ := rd_bears hX hls (show RdOk l (rd) from hro) hRt
      repeat' first
          | (first
              | refine TR.p hP (by first | exact cb) (by repeat' first | exact trivial | (intro _; assumption) | apply And.intro) ?_
              | refine TR.gp hP rfl (fun _ => by first | exact cb) (fun _ => by repeat' first | exact trivial | (intro _; assumption) | apply And.intro) ?_
              | refine TR.pv hP rfl (by first | exact cb) trivial (by repeat' first | exact trivial | (intro _; assumption) | apply And.intro) ?_
             try simp only [own?_setO, own?_nestD, own?_delC, own?_delC1, own?_delC2, ne_lo', ne_hi, mem_nmN, vcb, ↓evSo_some, ↓reduceIte, reduceCtorEq, seval])
          | refine And.intro (fun h => ?_) (fun h => ?_)
          | refine And.intro (by first | omega | (simp only [maxLen, decide_eq_true_eq, decide_eq_false_iff_not] at *; omega)) ?_
          | (refine TR.aslO rfl rfl rfl rfl trivial (Nat.le_of_ble_eq_true rfl) ?_
             try simp only [own?_setO, own?_nestD, own?_delC, own?_delC1, own?_delC2, ne_lo', ne_hi, mem_nmN, vcb, ↓evSo_some, ↓reduceIte, reduceCtorEq, seval])
          | refine And.intro trivial ?_
          | refine And.intro rfl ?_
          | fail
      generalize hb : bearsA t (rd) = b at *
      have hsl := hI.lg
      refine vcC.loop (X := Nat × Sw) (fun x => ofSt ts l (rd) t.kind k x.2 [(14, .own 14 0), (54, .d (slK .i64 b)), (55, .d (.int .i64 b.length)), (56, .d (.int .i64 x.1))] [(14, .fix (cT t))] [14])
        (fun x => x.1 ≤ b.length ∧ SwI l k x.1 x.2 ∧ swe t.id b s = swpR t.id b (b.length - x.1) x.1 x.2) (fun x => b.length - x.1) (0, s) ⟨Nat.zero_le _, hI, rfl⟩
        (Wk.of0 hfn rfl rfl (by simp only [ofE, slT, slX, slK, own?_setO, own?_nestD, own?_delC, own?_delC1, own?_delC2, ne_lo', ne_hi, mem_nmN, List.cons_append, List.nil_append, enb, vcb, ↓evSo_some, ↓reduceIte, reduceCtorEq, seval]) (by simp only [OwnLeS, rowX, cT, own?_setO, own?_nestD, own?_delC, own?_delC1, own?_delC2, ne_lo', ne_hi, mem_nmN, List.cons_append, List.nil_append, enb, vcb, ↓evSo_some, ↓reduceIte, reduceCtorEq, seval]) (by simp only [own?_setO, own?_nestD, own?_delC, own?_delC1, own?_delC2, ne_lo', ne_hi, mem_nmN, enb, vcb, ↓evSo_some, ↓reduceIte, reduceCtorEq, seval]) (fun j => by simp only [own?_setO, own?_nestD, own?_delC, own?_delC1, own?_delC2, ne_lo', ne_hi, mem_nmN, enb, vcb, ↓evSo_some, ↓reduceIte, reduceCtorEq, seval])) ?_
      rintro ⟨i, s1⟩ ⟨hi, hI1, he1⟩
      simp only at hi hI1 he1
      have hsl1 := hI1.lg
      have hwl : (withX l s1.1).length = l.length := with_len hI1.la
      simp only [ofSt, ofE, slT, slX, slK, rowX, cT, List.cons_append, List.nil_append, vcb, ↓evSo_some, ↓reduceIte, reduceCtorEq, seval]
      refine ⟨fun h2 => ?_, fun h2 => ?_⟩
      · have hi2 : i < b.length := by have := of_decide_eq_true h2; omega
        have hil : i < l.length := by omega
        have hbi := hb2 i
        have ham := hI1.am i
        have hbd : (l.getD i default).amt ≤ 1000000000000000 := by
          have := lossX_iff.1 (hX (l.getD i default) (by rw [List.getD_eq_getElem?_getD, List.getElem?_eq_getElem hil]; exact List.getElem_mem hil))
          omega
        have hwa : ((withX l s1.1).getD i default).amt = s1.1.getD i 0 := by rw [with_get hI1.la]
        have ewi : IntKind.i64.wrap ((i : Int) + 1) = ((i + 1 : Nat) : Int) := wS (by omega)
        have ew : IntKind.i64.wrap (s1.1.getD i 0 - min (b.getD i 0) (s1.1.getD i 0)) = s1.1.getD i 0 - min (b.getD i 0) (s1.1.getD i 0) := wI (by omega)
        have hI2 := hI1.step t.id (b := b) hil hbi
        rw [show b.length - i = (b.length - (i + 1)) + 1 by omega, swpR] at he1
        have hrow : ∀ q, q < (withX l s1.1).length → (if q = i then putD [.int .i64 ((withX l s1.1).getD i default).cl, .int .i64 ((withX l s1.1).getD i default).ev, .int .i64 ((withX l s1.1).getD i default).day, .int .i64 ((withX l s1.1).getD i default).per, .int .i64 (s1.1.getD i 0)] 4 [.int .i64 (s1.1.getD i 0 - min (b.getD i 0) (s1.1.getD i 0))]
            else [.int .i64 ((withX l s1.1).getD q default).cl, .int .i64 ((withX l s1.1).getD q default).ev, .int .i64 ((withX l s1.1).getD q default).day, .int .i64 ((withX l s1.1).getD q default).per, .int .i64 ((withX l s1.1).getD q default).amt] : List D) =
            [.int .i64 ((withX l (s1.1.set i (s1.1.getD i 0 - min (b.getD i 0) (s1.1.getD i 0)))).getD q default).cl, .int .i64 ((withX l (s1.1.set i (s1.1.getD i 0 - min (b.getD i 0) (s1.1.getD i 0)))).getD q default).ev, .int .i64 ((withX l (s1.1.set i (s1.1.getD i 0 - min (b.getD i 0) (s1.1.getD i 0)))).getD q default).day,
              .int .i64 ((withX l (s1.1.set i (s1.1.getD i 0 - min (b.getD i 0) (s1.1.getD i 0)))).getD q default).per, .int .i64 ((withX l (s1.1.set i (s1.1.getD i 0 - min (b.getD i 0) (s1.1.getD i 0)))).getD q default).amt] := fun q hq => by
          rw [hwl] at hq
          rw [with_get hI1.la, with_get (a := s1.1.set i _) (by rw [List.length_set]; exact hI1.la), with_get hI1.la, getD_set (by rw [hI1.la]; exact hil)]
          by_cases e : q = i
          · subst e; simp [putD]
          · rw [if_neg e, if_neg (fun h => e h.symm)]
        have hwl2 : (withX l (s1.1.set i (s1.1.getD i 0 - min (b.getD i 0) (s1.1.getD i 0)))).length = (withX l s1.1).length := by rw [hwl]; exact with_len (by rw [List.length_set]; exact hI1.la)
        simp only [hwa, ew, own?_setO, own?_nestD, own?_delC, own?_delC1, own?_delC2, ne_lo', ne_hi, mem_nmN, vcb, ↓evSo_some, ↓reduceIte, reduceCtorEq, seval]
        repeat' first
            | refine And.intro (fun h => ?_) (fun h => ?_)
            | refine And.intro (by first | omega | (simp only [maxLen, decide_eq_true_eq, decide_eq_false_iff_not] at *; omega)) ?_
            | (refine TR.aslO rfl rfl rfl rfl trivial (Nat.le_of_ble_eq_true rfl) ?_
               try simp only [hwa, ew, own?_setO, own?_nestD, own?_delC, own?_delC1, own?_delC2, ne_lo', ne_hi, mem_nmN, vcb, ↓evSo_some, ↓reduceIte, reduceCtorEq, seval])
            | refine And.intro trivial ?_
            | refine And.intro rfl ?_
            | fail
        · have hm : 0 < (min (b.getD i 0) (s1.1.getD i 0)) := by have := of_decide_eq_true h; omega
          clear h
          have hil2 : i < s1.2.length := by omega
          have hgi : s1.2[i]? = some s1.2[i] := List.getElem?_eq_getElem hil2
          have hgd : s1.2.getD i [] = s1.2[i] := by rw [List.getD_eq_getElem?_getD, hgi]; rfl
          have hgl := hI1.gl i _ hgi
          rw [if_neg (Nat.lt_irrefl i)] at hgl
          have hsw : swpS t.id b i s1 = (s1.1.set i (s1.1.getD i 0 - (min (b.getD i 0) (s1.1.getD i 0))), s1.2.set i (s1.2[i] ++ [(t.id, (min (b.getD i 0) (s1.1.getD i 0)))])) := by rw [swpS, if_pos hm, hgd]
          rw [hsw] at he1 hI2
          generalize s1.2[i] = g at *
          have hnth := nestC_nth (dx := ((0, 0) : Int × Int)) (cells := cC) (K := 5000) (τ := 0) (sz := 2) (i := 0) hgi
          rw [Nat.zero_add] at hnth
          have hfin : ∀ (st : St), EnvLe (renE (Go.Bx.sw 90 (5000 + i)) st.env) (ofE ts l (rd) t.kind k ++ [(14, .own 14 0), (54, .d (slK .i64 b)), (55, .d (.int .i64 b.length)), (56, .d (.int .i64 ((i + 1 : Nat) : Int)))]) →
              OwnLeS (Go.Bx.sw 90 (5000 + i)) st.own ([(900, rowX (withX l (s1.1.set i (s1.1.getD i 0 - (min (b.getD i 0) (s1.1.getD i 0))))))] ++ [(14, .fix (cT t))]) → own? st.own 30 = some (.lit 35 1 s1.2.length (putV (nCC s1.2) i [.osl 90])) →
              (∃ n F, own? st.own 90 = some (.row 37 2 n F) ∧ n = g.length + 1 ∧ ∀ q, q < g.length + 1 → F q = cC ((g ++ [(t.id, (min (b.getD i 0) (s1.1.getD i 0)))]).getD q (0, 0))) →
              (∀ j, j ≠ i → own? st.own (5000 + j) = own? (nOC s1.2) (5000 + j)) →
              Wk c st (ofSt ts l (rd) t.kind k (s1.1.set i (s1.1.getD i 0 - (min (b.getD i 0) (s1.1.getD i 0))), s1.2.set i (g ++ [(t.id, (min (b.getD i 0) (s1.1.getD i 0)))])) [(14, .own 14 0), (54, .d (slK .i64 b)), (55, .d (.int .i64 b.length)), (56, .d (.int .i64 ((i + 1 : Nat) : Int)))] [(14, .fix (cT t))] [14]) := fun st q1 q2 q3 q4 q5 => by
            obtain ⟨n, F, q6, q7, q8⟩ := q4
            have := Wk.nestPush (c := c) (st := st) (dx := ((0, 0) : Int × Int)) (cells := cC) (K := 5000) (K' := 30) (τ := 0) (e' := 35) (e := 37) (sz := 2) (G := s1.2) 90 i (g ++ [(t.id, (min (b.getD i 0) (s1.1.getD i 0)))]) [] hfn (by omega) (by omega) (by omega) (by simp) (by simp) (N := [30, 900, 14]) rfl rfl q1 q2 hil2 (by simp) q3 ⟨n, F, q6, by simp; omega, fun q hq => q8 q (by simpa using hq)⟩ q5
            unfold ofSt
            simp only [List.length_set]
            exact this
          by_cases hg0 : g.length ≤ 0
          · rw [if_pos hg0] at hnth
            have hgn : g = [] := List.eq_nil_of_length_eq_zero (by omega)
            subst hgn
            simp only [hnth, List.length_nil, own?_setO, own?_nestD, own?_delC, own?_delC1, own?_delC2, ne_lo', ne_hi, mem_nmN, vcb, ↓evSo_some, ↓reduceIte, reduceCtorEq, seval]
            repeat' first
                | refine And.intro (fun h => ?_) (fun h => ?_)
                | refine And.intro (by first | omega | (simp only [maxLen, decide_eq_true_eq, decide_eq_false_iff_not] at *; omega)) ?_
                | (refine TR.aslO rfl rfl rfl rfl trivial (Nat.le_of_ble_eq_true rfl) ?_
                   try simp only [hnth, own?_setO, own?_nestD, own?_delC, own?_delC1, own?_delC2, ne_lo', ne_hi, mem_nmN, vcb, ↓evSo_some, ↓reduceIte, reduceCtorEq, seval])
                | refine And.intro trivial ?_
                | refine And.intro rfl ?_
                | fail
            refine lopK.on (i + 1, (s1.1.set i (s1.1.getD i 0 - (min (b.getD i 0) (s1.1.getD i 0))), s1.2.set i ([] ++ [(t.id, (min (b.getD i 0) (s1.1.getD i 0)))]))) ⟨hi2, hI2, he1⟩ (by simp only; omega) ?_
            refine (hfin _ (by simp only [ofE, slT, slX, slK, ewi, own?_setO, own?_nestD, own?_delC, own?_delC1, own?_delC2, ne_lo', ne_hi, mem_nmN, List.cons_append, List.nil_append, enb, vcb, ↓evSo_some, ↓reduceIte, reduceCtorEq, seval]) (by simp only [OwnLeS, rowX, cT, hwl2, own?_setO, own?_nestD, own?_delC, own?_delC1, own?_delC2, ne_lo', ne_hi, mem_nmN, List.cons_append, List.nil_append, enb, vcb, ↓evSo_some, ↓reduceIte, reduceCtorEq, seval]; exact OLe.row rfl hrow) (by simp only [own?_setO, own?_nestD, own?_delC, own?_delC1, own?_delC2, ne_lo', ne_hi, mem_nmN, enb, vcb, ↓evSo_some, ↓reduceIte, reduceCtorEq, seval]) ⟨_, _, by simp only [own?_setO, own?_nestD, own?_delC, own?_delC1, own?_delC2, ne_lo', ne_hi, mem_nmN, enb, vcb, ↓evSo_some, ↓reduceIte, reduceCtorEq, seval]; rfl, by simp, fun q hq => ?_⟩ (fun j hj => ?_))
            · have e0 : q = 0 := by simp at hq; omega
              subst e0
              simp [litRow, cC]
            · have hji : (5000 + j = 5000 + i) = False := eq_false (by omega)
              simp only [hji, own?_setO, own?_nestD, own?_delC, own?_delC1, own?_delC2, ne_lo', ne_hi, mem_nmN, enb, vcb, ↓evSo_some, ↓reduceIte, reduceCtorEq, seval]
          · rw [if_neg hg0] at hnth
            have hrw := nC_at hgi (by omega)
            simp only [hnth, hrw, own?_setO, own?_nestD, own?_delC, own?_delC1, own?_delC2, ne_lo', ne_hi, mem_nmN, vcb, ↓evSo_some, ↓reduceIte, reduceCtorEq, seval]
            repeat' first
                | refine And.intro (fun h => ?_) (fun h => ?_)
                | refine And.intro (by first | omega | (simp only [maxLen, decide_eq_true_eq, decide_eq_false_iff_not] at *; omega)) ?_
                | (refine TR.aslO rfl rfl rfl rfl trivial (Nat.le_of_ble_eq_true rfl) ?_
                   try simp only [hnth, hrw, own?_setO, own?_nestD, own?_delC, own?_delC1, own?_delC2, ne_lo', ne_hi, mem_nmN, vcb, ↓evSo_some, ↓reduceIte, reduceCtorEq, seval])
                | refine And.intro trivial ?_
                | refine And.intro rfl ?_
                | fail
            refine ⟨by (simp [ownOk, meetL, hitL, inAnc, List.range, List.range.loop, ne_lo', ne_hi]; decide), ?_⟩
            refine lopK.on (i + 1, (s1.1.set i (s1.1.getD i 0 - (min (b.getD i 0) (s1.1.getD i 0))), s1.2.set i (g ++ [(t.id, (min (b.getD i 0) (s1.1.getD i 0)))]))) ⟨hi2, hI2, he1⟩ (by simp only; omega) ?_
            refine (hfin _ (by simp only [ofE, slT, slX, slK, ewi, own?_setO, own?_nestD, own?_delC, own?_delC1, own?_delC2, ne_lo', ne_hi, mem_nmN, List.cons_append, List.nil_append, enb, vcb, ↓evSo_some, ↓reduceIte, reduceCtorEq, seval]) (by simp only [OwnLeS, rowX, cT, hwl2, own?_setO, own?_nestD, own?_delC, own?_delC1, own?_delC2, ne_lo', ne_hi, mem_nmN, List.cons_append, List.nil_append, enb, vcb, ↓evSo_some, ↓reduceIte, reduceCtorEq, seval]; exact OLe.row rfl hrow) (by simp only [own?_setO, own?_nestD, own?_delC, own?_delC1, own?_delC2, ne_lo', ne_hi, mem_nmN, enb, vcb, ↓evSo_some, ↓reduceIte, reduceCtorEq, seval]) ⟨_, _, by simp only [own?_setO, own?_nestD, own?_delC, own?_delC1, own?_delC2, ne_lo', ne_hi, mem_nmN, enb, vcb, ↓evSo_some, ↓reduceIte, reduceCtorEq, seval]; rfl, by simp, fun q hq => ?_⟩ (fun j hj => ?_))
            · by_cases e : q < g.length
              · simp [e, cC, List.getElem?_append_left e]
              · have e2 : q = g.length := by omega
                subst e2
                simp [litRow, cC]
            · have hji : (5000 + j = 5000 + i) = False := eq_false (by omega)
              simp only [hji, own?_setO, own?_nestD, own?_delC, own?_delC1, own?_delC2, ne_lo', ne_hi, mem_nmN, enb, vcb, ↓evSo_some, ↓reduceIte, reduceCtorEq, seval]
        · have hm : ¬ 0 < (min (b.getD i 0) (s1.1.getD i 0)) := by have := of_decide_eq_false h; omega
          have hsw : swpS t.id b i s1 = (s1.1.set i (s1.1.getD i 0 - (min (b.getD i 0) (s1.1.getD i 0))), s1.2) := by rw [swpS, if_neg hm]
          rw [hsw] at he1 hI2
          refine lopK.on (i + 1, (s1.1.set i (s1.1.getD i 0 - (min (b.getD i 0) (s1.1.getD i 0))), s1.2)) ⟨hi2, hI2, he1⟩ (by simp only; omega) ?_
          exact (Wk.of0 (ts := ts) (l := l) (rd := (rd)) (kd := t.kind) (k := k) (s := (s1.1.set i (s1.1.getD i 0 - (min (b.getD i 0) (s1.1.getD i 0))), s1.2)) (ex := [(14, .own 14 0), (54, .d (slK .i64 b)), (55, .d (.int .i64 b.length)), (56, .d (.int .i64 ((i + 1 : Nat) : Int)))]) (ox := [(14, .fix (cT t))]) (nx := [14]) hfn rfl rfl (by simp only [ofE, slT, slX, slK, ewi, own?_setO, own?_nestD, own?_delC, own?_delC1, own?_delC2, ne_lo', ne_hi, mem_nmN, List.cons_append, List.nil_append, enb, vcb, ↓evSo_some, ↓reduceIte, reduceCtorEq, seval]) (by simp only [OwnLeS, rowX, cT, hwl2, own?_setO, own?_nestD, own?_delC, own?_delC1, own?_delC2, ne_lo', ne_hi, mem_nmN, List.cons_append, List.nil_append, enb, vcb, ↓evSo_some, ↓reduceIte, reduceCtorEq, seval]; exact OLe.row rfl hrow) (by simp only [own?_setO, own?_nestD, own?_delC, own?_delC1, own?_delC2, ne_lo', ne_hi, mem_nmN, enb, vcb, ↓evSo_some, ↓reduceIte, reduceCtorEq, seval]) (fun j => by simp only [own?_setO, own?_nestD, own?_delC, own?_delC1, own?_delC2, ne_lo', ne_hi, mem_nmN, enb, vcb, ↓evSo_some, ↓reduceIte, reduceCtorEq, seval]))
      · have hib : i = b.length := by have := of_decide_eq_false h2; omega
        rw [hib, Nat.sub_self, swpR] at he1
        rw [he1] at he
        subst hib
        rw [hb1] at hI1
        have hI2 := hI1.next
        repeat' first
            | refine And.intro (fun h => ?_) (fun h => ?_)
            | refine And.intro (by first | omega | (simp only [maxLen, decide_eq_true_eq, decide_eq_false_iff_not] at *; omega)) ?_
            | (refine TR.aslO rfl rfl rfl rfl trivial (Nat.le_of_ble_eq_true rfl) ?_
               try simp only [own?_setO, own?_nestD, own?_delC, own?_delC1, own?_delC2, ne_lo', ne_hi, mem_nmN, vcb, ↓evSo_some, ↓reduceIte, reduceCtorEq, seval])
            | refine And.intro trivial ?_
            | refine And.intro rfl ?_
            | fail
        refine lopK.on (k + 1, s1, (rd), t.kind) ⟨hlt, hI2, hro, hbl, hbase, he⟩ (by simp only; omega) ?_
        exact Wk.of0 (ts := ts) (l := l) (rd := (rd)) (kd := t.kind) (k := k + 1) (s := s1) (ex := []) (ox := []) (nx := []) hfn rfl rfl (by simp only [ofE, slT, slX, slK, ewk, own?_setO, own?_nestD, own?_delC, own?_delC1, own?_delC2, ne_lo', ne_hi, mem_nmN, List.cons_append, List.nil_append, List.append_nil, enb, vcb, ↓evSo_some, ↓reduceIte, reduceCtorEq, seval]) (by simp only [OwnLeS, rowX, own?_setO, own?_nestD, own?_delC, own?_delC1, own?_delC2, ne_lo', ne_hi, mem_nmN, List.cons_append, List.nil_append, List.append_nil, enb, vcb, ↓evSo_some, ↓reduceIte, reduceCtorEq, seval]) (by simp only [own?_setO, own?_nestD, own?_delC, own?_delC1, own?_delC2, ne_lo', ne_hi, mem_nmN, enb, vcb, ↓evSo_some, ↓reduceIte, reduceCtorEq, seval]) (fun j => by simp only [own?_setO, own?_nestD, own?_delC, own?_delC1, own?_delC2, ne_lo', ne_hi, mem_nmN, enb, vcb, ↓evSo_some, ↓reduceIte, reduceCtorEq, seval])
  · have hkl : k = (orderT ts).length := by have := of_decide_eq_false h1; omega
    rw [hkl, List.drop_length, twr] at he
    have hsl := hI.lg
    have hwl : (withX l s.1).length = l.length := with_len hI.la
    simp only [own?_setO, own?_nestD, own?_delC, own?_delC1, own?_delC2, ne_lo', ne_hi, mem_nmN, vcb, ↓evSo_some, ↓reduceIte, reduceCtorEq, seval]
    repeat' first
        | refine And.intro (fun h => ?_) (fun h => ?_)
        | refine And.intro (by first | omega | (simp only [maxLen, decide_eq_true_eq, decide_eq_false_iff_not] at *; omega)) ?_
        | (refine TR.aslO rfl rfl rfl rfl trivial (Nat.le_of_ble_eq_true rfl) ?_
           try simp only [own?_setO, own?_nestD, own?_delC, own?_delC1, own?_delC2, ne_lo', ne_hi, mem_nmN, vcb, ↓evSo_some, ↓reduceIte, reduceCtorEq, seval])
        | refine And.intro trivial ?_
        | refine And.intro rfl ?_
        | fail
    refine vcC.loop (X := Nat) (fun i => ⟨[(9, .osl 30), (17, .osl 96), (97, .osl 900), (98, .d (.int .i64 l.length)), (99, .d (.int .i64 i))],
        (30, .lit 35 1 s.2.length (nCC s.2)) :: ([(900, rowX (withX l s.1)), (96, .row 3 1 l.length (fun j => [.int .i64 ((s.1.take i).getD j 0)]))] ++ nOC s.2), [30, 900, 96] ++ nmN 5000 s.2.length⟩)
      (fun i => i ≤ l.length) (fun i => l.length - i) 0 (Nat.zero_le _) ?_ ?_
    · exact Wk.nestKeep (dx := ((0, 0) : Int × Int)) (cells := cC) (K := 5000) (K' := 30) (τ := 0) (e' := 35) (e := 37) (sz := 2) (G := s.2) (A := [(900, rowX (withX l s.1)), (96, .row 3 1 l.length (fun j => [.int .i64 ((s.1.take 0).getD j 0)]))]) (N := [30, 900, 96]) 0 0 [] hfn (by omega) (by omega) (by omega) (by omega) (by simp) (by simp) rfl rfl (by simp only [hwl, own?_setO, own?_nestD, own?_delC, own?_delC1, own?_delC2, ne_lo', ne_hi, mem_nmN, enb, vcb, ↓evSo_some, ↓reduceIte, reduceCtorEq, seval]) (by simp only [OwnLeS, rowX, own?_setO, own?_nestD, own?_delC, own?_delC1, own?_delC2, ne_lo', ne_hi, mem_nmN, enb, vcb, ↓evSo_some, ↓reduceIte, reduceCtorEq, seval]; exact OLe.row rfl fun i _ => by simp) (by simp only [own?_setO, own?_nestD, own?_delC, own?_delC1, own?_delC2, ne_lo', ne_hi, mem_nmN, enb, vcb, ↓evSo_some, ↓reduceIte, reduceCtorEq, seval]) (fun j => by simp only [own?_setO, own?_nestD, own?_delC, own?_delC1, own?_delC2, ne_lo', ne_hi, mem_nmN, enb, vcb, ↓evSo_some, ↓reduceIte, reduceCtorEq, seval])
    rintro i hi
    simp only [rowX, List.cons_append, List.nil_append, vcb, ↓evSo_some, ↓reduceIte, reduceCtorEq, seval]
    refine ⟨fun h2 => ?_, fun h2 => ?_⟩
    · have hi2 : i < l.length := by have := of_decide_eq_true h2; omega
      have hwa : ((withX l s.1).getD i default).amt = s.1.getD i 0 := by rw [with_get hI.la]
      have ewi : IntKind.i64.wrap ((i : Int) + 1) = ((i + 1 : Nat) : Int) := wS (by omega)
      have hrw : ∀ q, q < l.length → (if q = i then putD [.int .i64 ((s.1.take i).getD i 0)] 0 [.int .i64 (s.1.getD i 0)] else [.int .i64 ((s.1.take i).getD q 0)] : List D) = [.int .i64 ((s.1.take (i + 1)).getD q 0)] := fun q hq => by
        have hla := hI.la
        by_cases e : q = i
        · subst e; simp [putD, List.getElem?_take]
        · rw [if_neg e]
          simp only [List.getD_eq_getElem?_getD, List.getElem?_take]
          by_cases e2 : q < i
          · rw [if_pos e2, if_pos (by omega)]
          · rw [if_neg e2, if_neg (by omega)]
      simp only [hwa, own?_setO, own?_nestD, own?_delC, own?_delC1, own?_delC2, ne_lo', ne_hi, mem_nmN, vcb, ↓evSo_some, ↓reduceIte, reduceCtorEq, seval]
      repeat' first
          | refine And.intro (fun h => ?_) (fun h => ?_)
          | refine And.intro (by first | omega | (simp only [maxLen, decide_eq_true_eq, decide_eq_false_iff_not] at *; omega)) ?_
          | (refine TR.aslO rfl rfl rfl rfl trivial (Nat.le_of_ble_eq_true rfl) ?_
             try simp only [hwa, own?_setO, own?_nestD, own?_delC, own?_delC1, own?_delC2, ne_lo', ne_hi, mem_nmN, vcb, ↓evSo_some, ↓reduceIte, reduceCtorEq, seval])
          | refine And.intro trivial ?_
          | refine And.intro rfl ?_
          | fail
      refine lopK.on (i + 1) hi2 (by omega) ?_
      exact Wk.nestKeep (dx := ((0, 0) : Int × Int)) (cells := cC) (K := 5000) (K' := 30) (τ := 0) (e' := 35) (e := 37) (sz := 2) (G := s.2) (A := [(900, rowX (withX l s.1)), (96, .row 3 1 l.length (fun j => [.int .i64 ((s.1.take (i + 1)).getD j 0)]))]) (N := [30, 900, 96]) 0 0 [] hfn (by omega) (by omega) (by omega) (by omega) (by simp) (by simp) rfl rfl (by simp only [ewi, own?_setO, own?_nestD, own?_delC, own?_delC1, own?_delC2, ne_lo', ne_hi, mem_nmN, enb, vcb, ↓evSo_some, ↓reduceIte, reduceCtorEq, seval]) (by simp only [OwnLeS, rowX, own?_setO, own?_nestD, own?_delC, own?_delC1, own?_delC2, ne_lo', ne_hi, mem_nmN, enb, vcb, ↓evSo_some, ↓reduceIte, reduceCtorEq, seval]; exact OLe.row rfl hrw) (by simp only [own?_setO, own?_nestD, own?_delC, own?_delC1, own?_delC2, ne_lo', ne_hi, mem_nmN, enb, vcb, ↓evSo_some, ↓reduceIte, reduceCtorEq, seval]) (fun j => by simp only [own?_setO, own?_nestD, own?_delC, own?_delC1, own?_delC2, ne_lo', ne_hi, mem_nmN, enb, vcb, ↓evSo_some, ↓reduceIte, reduceCtorEq, seval])
    · have hil : i = l.length := by have := of_decide_eq_false h2; omega
      have htk : s.1.take l.length = s.1 := List.take_of_length_le (by rw [hI.la]; exact Nat.le_refl _)
      subst hil
      rw [htk]
      repeat' first
          | refine And.intro (fun h => ?_) (fun h => ?_)
          | refine And.intro (by first | omega | (simp only [maxLen, decide_eq_true_eq, decide_eq_false_iff_not] at *; omega)) ?_
          | (refine TR.aslO rfl rfl rfl rfl trivial (Nat.le_of_ble_eq_true rfl) ?_
             try simp only [own?_setO, own?_nestD, own?_delC, own?_delC1, own?_delC2, ne_lo', ne_hi, mem_nmN, vcb, ↓evSo_some, ↓reduceIte, reduceCtorEq, seval])
          | refine And.intro trivial ?_
          | refine And.intro rfl ?_
          | fail
      refine RetK.mk _ ((Wk.nestPub (dx := ((0, 0) : Int × Int)) (cells := cC) (K' := 30) (K := 5000) (τ := 0) (e' := 35) (e := 37) (sz := 2) (G := s.2) (own' := [(30, .row 35 1 s.2.length (nestD (0, 0) cC 2 s.2)), (96, .row 3 1 l.length (fun j => [.int .i64 (s.1.getD j 0)]))]) (by simp only [vcb, ↓evSo_some, ↓reduceIte, reduceCtorEq, seval])
          (fun i g hg1 hg2 => by simp only [ne_lo', nC_at hg1 hg2, vcb, ↓evSo_some, ↓reduceIte, reduceCtorEq, seval]) (by simp [keysO]) (fun k o hm => by
            simp only [List.mem_cons, List.not_mem_nil, or_false, Prod.mk.injEq] at hm
            rcases hm with ⟨rfl, rfl⟩ | ⟨rfl, rfl⟩
            · exact .inl ⟨rfl, rfl⟩
            · exact .inr ⟨by omega, by simp only [vcb, ↓evSo_some, ↓reduceIte, reduceCtorEq, seval]⟩) (fun i hi => by simp [keysO]; omega)).trans ((Wk.pub 30 rfl).trans (Wk.pub 96 rfl))) (by simp only [rs11, rsb, vcb, ↓evSo_some, ↓reduceIte, reduceCtorEq, seval]) ?_ trivial
      simp only [rs11, rsb, vcb, ↓evSo_some, ↓reduceIte, reduceCtorEq, seval]
      rw [hof, he]
      exact VLe.tups ⟨VLe.refl _, VLe.sl hI.la.symm (fun _ => rfl) id fun i hi => rfl, VLe.refl _, trivial⟩
end Go.Proofs.Ytgpckelpmincmaa
end
section
set_option linter.unusedSimpArgs false
set_option linter.unusedVariables false
namespace Go.Proofs.Ytgpckelpmincmaa
set_option linter.unusedSimpArgs false
set_option linter.unusedVariables false
open Go.Bx
set_option maxRecDepth 10000
theorem VLe.slD {full full' : Bool} {sz n : Nat} {f f' : Nat → List D} (hb : full' = true → full = true) (hf : ∀ i, i < n → (f i).length = (f' i).length ∧ ∀ (j : Nat) (x y : D), (f i)[j]? = some x → (f' i)[j]? = some y → VLe (.d x) (.d y)) : VLe (.d (.sl full sz n f)) (.d (.sl full' sz n f')) := by
  intro β E w v hv
  cases hv with
  | d _ _ hv =>
    refine .d _ _ ?_
    generalize hN : n = m at hv ⊢
    cases hv with
    | nil _ _ _ _ => exact .nil _ _ _ _
    | sl _ _ _ _ b off c g hc hfu hl hcell hrel =>
      subst hN
      refine .sl _ _ _ _ b off c g hc (fun h => hfu (hb h)) (fun i hi => by rw [← (hf i hi).1]; exact hl i hi) hcell (fun i j hi hj y hy => ?_)
      have hlt : j < (f i).length := by rw [hl i hi]; exact hj
      have h1 := hrel i j hi hj _ (List.getElem?_eq_getElem hlt)
      have h2 := (hf i hi).2 j _ y (List.getElem?_eq_getElem hlt) hy
      exact rel_d (h2 β E w _ (.d _ _ h1))
def exT : List Tr := [⟨2, 2, 1, 100, 0, 100, 50, 0, 1⟩, ⟨1, 1, 1, 100, 5000, 0, 0, 0, 1⟩]
def exL : List Ls := [⟨1, 0, 5, 0, 260⟩]
theorem ex_of : ofT exT exL = ([[(1, 130), (2, 30)]], [100], 0) := by
  have h1 : mayT exT exL = 0 := by decide +kernel
  have h2 : refT exT exL = ([100], [[(1, 130), (2, 30)]]) := by decide +kernel
  rw [ofT, if_neg (by rw [h1]; simp), tower_ref, h2]
theorem ex_order : orderT exT = [1, 0] := by rw [order_eq]; decide +kernel
theorem ex_sums : sumsT exT [[(1, 130), (2, 30)]] = [30, 130] := by decide +kernel
def eT : V := .d (.sl true 9 2 (litRow 9 [.int .i64 2, .int .i64 2, .int .i64 1, .int .i64 100, .int .i64 0, .int .i64 100, .int .i64 50, .int .i64 0, .int .i64 1, .int .i64 1, .int .i64 1, .int .i64 1, .int .i64 100, .int .i64 5000, .int .i64 0, .int .i64 0, .int .i64 0, .int .i64 1]))
def eL : V := .d (.sl true 5 1 (litRow 5 [.int .i64 1, .int .i64 0, .int .i64 5, .int .i64 0, .int .i64 260]))
def eC : V := .d (.sl true 1 1 (litRow 1 [.sl true 2 2 (litRow 2 [.int .i64 1, .int .i64 130, .int .i64 2, .int .i64 30])]))
def eI1 : V := .d (.sl true 1 1 (litRow 1 [.int .i64 100]))
def eI2 : V := .d (.sl true 1 2 (litRow 1 [.int .i64 1, .int .i64 0]))
def eI3 : V := .d (.sl true 1 2 (litRow 1 [.int .i64 30, .int .i64 130]))
theorem vle_exT : VLe eT (.d (slT exT)) :=
  VLe.sl rfl (fun _ => rfl) (fun h => by cases h) fun i hi => by
    have : i = 0 ∨ i = 1 := by omega
    rcases this with rfl | rfl <;> rfl
theorem vle_exL : VLe eL (.d (slX exL)) :=
  VLe.sl rfl (fun _ => rfl) (fun h => by cases h) fun i hi => by
    have : i = 0 := by omega
    subst this; rfl
theorem vle_exC : VLe eC (.d (gC [[(1, 130), (2, 30)]])) := by
  refine VLe.slD (fun h => by cases h) fun i hi => ?_
  have : i = 0 := by omega
  subst this
  refine ⟨rfl, fun j x y hx hy => ?_⟩
  have hj : j = 0 := by
    have := (List.getElem?_eq_some_iff.1 hy).1
    simp [nestD] at this; exact this
  subst hj
  simp [litRow] at hx
  simp [nestD] at hy
  subst hx; subst hy
  exact VLe.sl rfl (fun _ => rfl) (fun h => by cases h) fun i hi => by
    have : i = 0 ∨ i = 1 := by omega
    rcases this with rfl | rfl <;> rfl
set_option maxHeartbeats 2000000 in
theorem lAwake : Ctr Try.prog 9 [] [] (.d (.bool true)) [] [] := by
  have c1 := sTOf exT exL (by decide) (by decide)
  rw [ex_of] at c1
  have c1 := c1.arg (args := [eT, eL]) ⟨vle_exT, vle_exL, trivial⟩
  have c2 := sOrder exT (by decide)
  rw [ex_order] at c2
  have c2 := c2.arg (args := [eT]) ⟨vle_exT, trivial⟩
  have c3 := sSums exT [[(1, 130), (2, 30)]] (by decide) (by decide) (by decide)
  rw [ex_sums] at c3
  have c3 := c3.arg (args := [eT, .d (gC [[(1, 130), (2, 30)]])]) ⟨vle_exT, VLe.refl _, trivial⟩
  have c4 := (rSameC [[(1, 130), (2, 30)]] [[(1, 130), (2, 30)]] (by decide) (by decide) (by decide) (by decide)).arg (args := [.d (gC [[(1, 130), (2, 30)]]), eC]) ⟨VLe.refl _, vle_exC, trivial⟩
  have c5 := (s17 [100] [100] (by decide)).arg (args := [.d (slK .i64 [100]), eI1]) ⟨VLe.refl _, LitI.vle (by repeat constructor) (by rfl), trivial⟩
  have c6 := (s17 [1, 0] [1, 0] (by decide)).arg (args := [.d (slK .i64 [1, 0]), eI2]) ⟨VLe.refl _, LitI.vle (by repeat constructor) (by rfl), trivial⟩
  have c7 := (s17 [30, 130] [30, 130] (by decide)).arg (args := [.d (slK .i64 [30, 130]), eI3]) ⟨VLe.refl _, LitI.vle (by repeat constructor) (by rfl), trivial⟩
  simp only [gC, slK, eT, eL, eC, eI1, eI2, eI3, List.length_cons, List.length_nil, Nat.zero_add, Nat.reduceAdd, decide_true] at c1 c2 c3 c4 c5 c6 c7
  refine ctr_pure Try.func9 ok9 rfl cc9 cr9 Try.ntmps9 (by simp) rfl rfl ?_; intro c hP hfn; simp only [kc9, vcb, ↓evSo_some, ↓reduceIte, reduceCtorEq, seval]
  repeat' first
      | (first
          | refine TR.p hP (by first | exact c1 | exact c2 | exact c3 | exact c4 | exact c5 | exact c6 | exact c7) (by repeat' first | exact trivial | (intro _; assumption) | apply And.intro) ?_
          | refine TR.gp hP rfl (fun _ => by first | exact c1 | exact c2 | exact c3 | exact c4 | exact c5 | exact c6 | exact c7) (fun _ => by repeat' first | exact trivial | (intro _; assumption) | apply And.intro) ?_
          | refine TR.pv hP rfl (by first | exact c1 | exact c2 | exact c3 | exact c4 | exact c5 | exact c6 | exact c7) trivial (by repeat' first | exact trivial | (intro _; assumption) | apply And.intro) ?_
         try simp only [vcb, ↓evSo_some, ↓reduceIte, reduceCtorEq, seval])
      | refine And.intro (fun h => ?_) (fun h => ?_)
      | refine And.intro (by first | omega | (simp only [maxLen, decide_eq_true_eq, decide_eq_false_iff_not] at *; omega)) ?_
      | (refine TR.aslO rfl rfl rfl rfl trivial (Nat.le_of_ble_eq_true rfl) ?_
         try simp only [vcb, ↓evSo_some, ↓reduceIte, reduceCtorEq, seval])
      | refine And.intro trivial ?_
      | refine And.intro rfl ?_
      | fail
  exact RetK.pure (by simp only [rs9, rsb, vcb, ↓evSo_some, ↓reduceIte, reduceCtorEq, seval]) (by (simp only [rs9, rsb, vcb, ↓evSo_some, ↓reduceIte, reduceCtorEq, seval, enb, vcb, ↓evSo_some, ↓reduceIte, reduceCtorEq, seval]) <;> (first | simp))
end Go.Proofs.Ytgpckelpmincmaa
end
