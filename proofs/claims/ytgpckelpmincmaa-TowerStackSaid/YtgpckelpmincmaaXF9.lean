import Derived.Test.YtgpckelpmincmaaXF8
section
set_option linter.unusedSimpArgs false
set_option linter.unusedVariables false
namespace Go.Proofs.Ytgpckelpmincmaa
set_option linter.unusedSimpArgs false
set_option linter.unusedVariables false
open Go.Bx
set_option maxRecDepth 10000
def bearsQ (t : Tr) (x : Ls) : Int × Bool := if t.kind = 1 ∧ takesT t x = true then ((bpR x.amt t.bp).1, true) else (0, false)
theorem right_bp {t : Tr} (h : rightT t = true) (hk : t.kind = 1) : 1 ≤ t.bp ∧ t.bp ≤ 10000 := by
  unfold rightT at h
  simp only [hk, if_true, Bool.and_eq_true, inB_iff] at h
  exact h.2.1
theorem q31 (t : Tr) (x : Ls) : Ctr Try.prog 20 [vT t, vX x] [] (.tup [.d (.int .i64 (bearsQ t x).1), .d (.bool (bearsQ t x).2)]) [] [] := by
  refine ctr_pure Try.func20 ok20 rfl cc20 cr20 Try.ntmps20 (by simp) rfl rfl ?_; intro c hP hfn; simp only [kc20, vT, vX, cT, cX', vcb, ↓evSo_some, ↓reduceIte, reduceCtorEq, seval]
  repeat' first
      | (first
          | refine TR.p hP (by first | exact s23 t x) (by repeat' first | exact trivial | (intro _; assumption) | apply And.intro) ?_
          | refine TR.gp hP rfl (fun _ => by first | exact s23 t x) (fun _ => by repeat' first | exact trivial | (intro _; assumption) | apply And.intro) ?_
          | refine TR.pv hP rfl (by first | exact s23 t x) trivial (by repeat' first | exact trivial | (intro _; assumption) | apply And.intro) ?_
         try simp only [vT, vX, cT, cX', vcb, ↓evSo_some, ↓reduceIte, reduceCtorEq, seval])
      | refine And.intro (fun h => ?_) (fun h => ?_)
      | refine And.intro (by first | omega | (simp only [maxLen, decide_eq_true_eq, decide_eq_false_iff_not] at *; omega)) ?_
      | (refine TR.aslO rfl rfl rfl rfl trivial (Nat.le_of_ble_eq_true rfl) ?_
         try simp only [vT, vX, cT, cX', vcb, ↓evSo_some, ↓reduceIte, reduceCtorEq, seval])
      | refine And.intro trivial ?_
      | refine And.intro rfl ?_
      | fail
  · have e : bearsQ t x = (0, false) := by
      rw [bearsQ, if_neg]; rintro ⟨h1, h2⟩; simp [h1, h2] at h
    (refine RetK.pure (by simp only [rs20, rsb, vcb, ↓evSo_some, ↓reduceIte, reduceCtorEq, seval]) (VLe.tups ?_); simp only [rs20, rsb, vcb, ↓evSo_some, ↓reduceIte, reduceCtorEq, seval])
    rw [e]; exact ⟨VLe.refl _, VLe.refl _, trivial⟩
  have h1 : t.kind = 1 ∧ takesT t x = true := by simpa using h
  have hr := takes_right h1.2
  have hb := right_bp hr.1 h1.1
  have ha := (lossX_iff.1 hr.2).2.2.2.2
  have e : bearsQ t x = ((bpR x.amt t.bp).1, true) := by rw [bearsQ, if_pos h1]
  repeat' first
      | (first
          | refine TR.p hP (by first | exact sBp x.amt t.bp (by omega) (by omega)) (by repeat' first | exact trivial | (intro _; assumption) | apply And.intro) ?_
          | refine TR.gp hP rfl (fun _ => by first | exact sBp x.amt t.bp (by omega) (by omega)) (fun _ => by repeat' first | exact trivial | (intro _; assumption) | apply And.intro) ?_
          | refine TR.pv hP rfl (by first | exact sBp x.amt t.bp (by omega) (by omega)) trivial (by repeat' first | exact trivial | (intro _; assumption) | apply And.intro) ?_
         try simp only [vcb, ↓evSo_some, ↓reduceIte, reduceCtorEq, seval])
      | refine And.intro (fun h => ?_) (fun h => ?_)
      | refine And.intro (by first | omega | (simp only [maxLen, decide_eq_true_eq, decide_eq_false_iff_not] at *; omega)) ?_
      | (refine TR.aslO rfl rfl rfl rfl trivial (Nat.le_of_ble_eq_true rfl) ?_
         try simp only [vcb, ↓evSo_some, ↓reduceIte, reduceCtorEq, seval])
      | refine And.intro trivial ?_
      | refine And.intro rfl ?_
      | fail
  (refine RetK.pure (by simp only [rs20, rsb, vcb, ↓evSo_some, ↓reduceIte, reduceCtorEq, seval]) (VLe.tups ?_); simp only [rs20, rsb, vcb, ↓evSo_some, ↓reduceIte, reduceCtorEq, seval])
  rw [e]; exact ⟨VLe.refl _, VLe.refl _, trivial⟩
theorem q32 (t : Tr) (x : Ls) (hp : x.per ≤ 9223372036854775807) : Ctr Try.prog 54 [vT t, vX x] [] (.tup [.d (.int .i64 (bearsQ t x).1), .d (.bool (bearsQ t x).2)]) [] [] := by
  refine ctr_pure Try.func54 ok54 rfl cc54 cr54 Try.ntmps54 (by simp) rfl rfl ?_; intro c hP hfn; simp only [kc54, vT, vX, cT, cX', vcb, ↓evSo_some, ↓reduceIte, reduceCtorEq, seval]
  repeat' first
      | (first
          | refine TR.p hP (by first | exact s30 t x hp) (by repeat' first | exact trivial | (intro _; assumption) | apply And.intro) ?_
          | refine TR.gp hP rfl (fun _ => by first | exact s30 t x hp) (fun _ => by repeat' first | exact trivial | (intro _; assumption) | apply And.intro) ?_
          | refine TR.pv hP rfl (by first | exact s30 t x hp) trivial (by repeat' first | exact trivial | (intro _; assumption) | apply And.intro) ?_
         try simp only [vT, vX, cT, cX', vcb, ↓evSo_some, ↓reduceIte, reduceCtorEq, seval])
      | refine And.intro (fun h => ?_) (fun h => ?_)
      | refine And.intro (by first | omega | (simp only [maxLen, decide_eq_true_eq, decide_eq_false_iff_not] at *; omega)) ?_
      | (refine TR.aslO rfl rfl rfl rfl trivial (Nat.le_of_ble_eq_true rfl) ?_
         try simp only [vT, vX, cT, cX', vcb, ↓evSo_some, ↓reduceIte, reduceCtorEq, seval])
      | refine And.intro trivial ?_
      | refine And.intro rfl ?_
      | fail
  · have e : bearsQ t x = (0, false) := by
      rw [bearsQ, if_neg]; rintro ⟨h1, h2⟩; simp [h1, h2] at h
    (refine RetK.pure (by simp only [rs54, rsb, vcb, ↓evSo_some, ↓reduceIte, reduceCtorEq, seval]) (VLe.tups ?_); simp only [rs54, rsb, vcb, ↓evSo_some, ↓reduceIte, reduceCtorEq, seval])
    rw [e]; exact ⟨VLe.refl _, VLe.refl _, trivial⟩
  have h1 : t.kind = 1 ∧ takesT t x = true := by simpa using h
  have hr := takes_right h1.2
  have hb := right_bp hr.1 h1.1
  have ha := (lossX_iff.1 hr.2).2.2.2.2
  have e : bearsQ t x = ((bpR x.amt t.bp).1, true) := by rw [bearsQ, if_pos h1]
  repeat' first
      | (first
          | refine TR.p hP (by first | exact rBp x.amt t.bp (by omega) (by omega)) (by repeat' first | exact trivial | (intro _; assumption) | apply And.intro) ?_
          | refine TR.gp hP rfl (fun _ => by first | exact rBp x.amt t.bp (by omega) (by omega)) (fun _ => by repeat' first | exact trivial | (intro _; assumption) | apply And.intro) ?_
          | refine TR.pv hP rfl (by first | exact rBp x.amt t.bp (by omega) (by omega)) trivial (by repeat' first | exact trivial | (intro _; assumption) | apply And.intro) ?_
         try simp only [vcb, ↓evSo_some, ↓reduceIte, reduceCtorEq, seval])
      | refine And.intro (fun h => ?_) (fun h => ?_)
      | refine And.intro (by first | omega | (simp only [maxLen, decide_eq_true_eq, decide_eq_false_iff_not] at *; omega)) ?_
      | (refine TR.aslO rfl rfl rfl rfl trivial (Nat.le_of_ble_eq_true rfl) ?_
         try simp only [vcb, ↓evSo_some, ↓reduceIte, reduceCtorEq, seval])
      | refine And.intro trivial ?_
      | refine And.intro rfl ?_
      | fail
  (refine RetK.pure (by simp only [rs54, rsb, vcb, ↓evSo_some, ↓reduceIte, reduceCtorEq, seval]) (VLe.tups ?_); simp only [rs54, rsb, vcb, ↓evSo_some, ↓reduceIte, reduceCtorEq, seval])
  rw [e]; exact ⟨VLe.refl _, VLe.refl _, trivial⟩
def mQ (t : Tr) (x : Ls) : Int := (heN x.amt.toNat t.bp.toNat : Nat)
theorem bears_m {t : Tr} {x : Ls} (h1 : t.kind = 1) (h2 : takesT t x = true) : (bpR x.amt t.bp).1 = mQ t x ∧ 0 ≤ mQ t x ∧ mQ t x ≤ x.amt ∧ x.amt ≤ 1000000000000000 ∧ 1 ≤ t.bp ∧ t.bp ≤ 10000 := by
  have hr := takes_right h2
  have hb := right_bp hr.1 h1
  have ha := (lossX_iff.1 hr.2).2.2.2.2
  have e1 : x.amt = (x.amt.toNat : Int) := by omega
  have e2 : t.bp = (t.bp.toNat : Int) := by omega
  have h3 := bp_he (x := x.amt.toNat) (b := t.bp.toNat) (by omega) (by omega)
  have h4 := he_le (x := x.amt.toNat) (b := t.bp.toNat) (by omega)
  rw [← e1, ← e2] at h3
  rw [h3]
  refine ⟨rfl, ?_, ?_, by omega, hb⟩ <;> unfold mQ <;> omega
theorem bearsQ_eq (t : Tr) (x : Ls) : bearsQ t x = if t.kind = 1 ∧ takesT t x = true then (mQ t x, true) else (0, false) := by
  unfold bearsQ
  split
  · rename_i h; rw [(bears_m h.1 h.2).1]
  · rfl
end Go.Proofs.Ytgpckelpmincmaa
end
section
set_option linter.unusedSimpArgs false
set_option linter.unusedVariables false
namespace Go.Proofs.Ytgpckelpmincmaa
set_option linter.unusedSimpArgs false
set_option linter.unusedVariables false
open Go.Bx
set_option maxRecDepth 10000
def bearsA (t : Tr) (l : List Ls) : List Int := if t.kind = 2 then (bearsT t l).1 else if t.kind = 3 then (bearsE t l).1 else l.map fun x => (bearsQ t x).1
set_option maxHeartbeats 2000000 in
theorem sTBears (t : Tr) (l : List Ls) (hl : l.length ≤ 1000000) : Ctr Try.prog 25 [vT t, .d (slX l)] [] (.d (slK .i64 (bearsA t l))) [] [] := by
  have c1 := s15 t l (by omega)
  have c2 := sBears t l hl
  simp only [vT, cT, slX, slK] at c1 c2
  refine ctr_pure Try.func25 ok25 rfl cc25 cr25 Try.ntmps25 (by simp) rfl rfl ?_; intro c hP hfn; simp only [kc25, vT, cT, slX, vcb, ↓evSo_some, ↓reduceIte, reduceCtorEq, seval]
  repeat' first
      | (first
          | refine TR.p hP (by first | exact c1 | exact c2) (by repeat' first | exact trivial | (intro _; assumption) | apply And.intro) ?_
          | refine TR.gp hP rfl (fun _ => by first | exact c1 | exact c2) (fun _ => by repeat' first | exact trivial | (intro _; assumption) | apply And.intro) ?_
          | refine TR.pv hP rfl (by first | exact c1 | exact c2) trivial (by repeat' first | exact trivial | (intro _; assumption) | apply And.intro) ?_
         try simp only [vcb, ↓evSo_some, ↓reduceIte, reduceCtorEq, seval])
      | refine And.intro (fun h => ?_) (fun h => ?_)
      | refine And.intro (by first | omega | (simp only [maxLen, decide_eq_true_eq, decide_eq_false_iff_not] at *; omega)) ?_
      | (refine TR.aslO rfl rfl rfl rfl trivial (Nat.le_of_ble_eq_true rfl) ?_
         try simp only [vcb, ↓evSo_some, ↓reduceIte, reduceCtorEq, seval])
      | refine And.intro trivial ?_
      | refine And.intro rfl ?_
      | fail
  · have h2 : t.kind = 2 := by simpa using h
    refine RetK.mk _ (Wk.refl _ _) (by simp only [rs25, rsb, vcb, ↓evSo_some, ↓reduceIte, reduceCtorEq, seval]) ?_ trivial
    simp only [rs25, rsb, vcb, ↓evSo_some, ↓reduceIte, reduceCtorEq, seval]
    rw [bearsA, if_pos h2]; exact VLe.refl _
  · rename_i h8
    have h2 : ¬ t.kind = 2 := by simpa using h8
    have h3 : t.kind = 3 := by simpa using h
    refine RetK.mk _ (Wk.refl _ _) (by simp only [rs25, rsb, vcb, ↓evSo_some, ↓reduceIte, reduceCtorEq, seval]) ?_ trivial
    simp only [rs25, rsb, vcb, ↓evSo_some, ↓reduceIte, reduceCtorEq, seval]
    rw [bearsA, if_neg h2, if_pos h3]; exact VLe.refl _
  · rename_i h8
    have h2 : ¬ t.kind = 2 := by simpa using h8
    have h3 : ¬ t.kind = 3 := by simpa using h
    have e0 : bearsA t l = l.map fun x => (bearsQ t x).1 := by rw [bearsA, if_neg h2, if_neg h3]
    clear c1 c2
    refine vcC.loop (X := List Int) (fun x => ⟨[(2, .own 2 0), (5, .osl 10), (13, .d (slX l)), (14, .d (.int .i64 l.length)), (15, .d (.int .i64 x.length))], [(2, .fix (cT t)), (10, .row 3 1 l.length (fun i => [.int .i64 (x.getD i 0)]))], [2, 10]⟩)
      (fun x => x.length ≤ l.length ∧ (l.map fun x => (bearsQ t x).1) = x ++ (l.drop x.length).map fun x => (bearsQ t x).1) (fun x => l.length - x.length) [] ⟨Nat.zero_le _, by simp⟩ (Wk.of _ hfn rfl (by simp only [slX, enb, vcb, ↓evSo_some, ↓reduceIte, reduceCtorEq, seval]) (by simp only [cT, enb, vcb, ↓evSo_some, ↓reduceIte, reduceCtorEq, seval]; exact OLe.row rfl fun i _ => by simp)) ?_
    rintro dn ⟨hk, he⟩
    simp only [slX, cT, vcb, ↓evSo_some, ↓reduceIte, reduceCtorEq, seval]
    refine ⟨fun h1 => ?_, fun h1 => ?_⟩
    · have hlt : dn.length < l.length := by have := of_decide_eq_true h1; omega
      obtain ⟨x, hd, hg, -, -⟩ := drop_at hlt
      have cq := q31 t x
      simp only [vT, cT, vX, cX'] at cq
      rw [hd, List.map_cons] at he
      simp only [hg, vcb, ↓evSo_some, ↓reduceIte, reduceCtorEq, seval]
      repeat' first
          | (first
              | refine TR.p hP (by first | exact cq) (by repeat' first | exact trivial | (intro _; assumption) | apply And.intro) ?_
              | refine TR.gp hP rfl (fun _ => by first | exact cq) (fun _ => by repeat' first | exact trivial | (intro _; assumption) | apply And.intro) ?_
              | refine TR.pv hP rfl (by first | exact cq) trivial (by repeat' first | exact trivial | (intro _; assumption) | apply And.intro) ?_
             try simp only [hg, vcb, ↓evSo_some, ↓reduceIte, reduceCtorEq, seval])
          | refine And.intro (fun h => ?_) (fun h => ?_)
          | refine And.intro (by first | omega | (simp only [maxLen, decide_eq_true_eq, decide_eq_false_iff_not] at *; omega)) ?_
          | (refine TR.aslO rfl rfl rfl rfl trivial (Nat.le_of_ble_eq_true rfl) ?_
             try simp only [hg, vcb, ↓evSo_some, ↓reduceIte, reduceCtorEq, seval])
          | refine And.intro trivial ?_
          | refine And.intro rfl ?_
          | fail
      exact lopK.on (dn ++ [(bearsQ t x).1]) ⟨by simp; omega, by rw [he]; simp⟩ (by simp; omega) (Wk.of _ hfn rfl (by simp only [slX, enb, vcb, ↓evSo_some, ↓reduceIte, reduceCtorEq, seval]; rw [List.length_append]; exact wS (by omega)) (by simp only [cT, enb, vcb, ↓evSo_some, ↓reduceIte, reduceCtorEq, seval]; exact OLe.snoc))
    · have hkl : dn.length = l.length := by have := of_decide_eq_false h1; omega
      rw [hkl, List.drop_length, List.map_nil, List.append_nil] at he
      repeat' first
          | refine And.intro (fun h => ?_) (fun h => ?_)
          | refine And.intro (by first | omega | (simp only [maxLen, decide_eq_true_eq, decide_eq_false_iff_not] at *; omega)) ?_
          | (refine TR.aslO rfl rfl rfl rfl trivial (Nat.le_of_ble_eq_true rfl) ?_
             try simp only [vcb, ↓evSo_some, ↓reduceIte, reduceCtorEq, seval])
          | refine And.intro trivial ?_
          | refine And.intro rfl ?_
          | fail
      refine RetK.mk _ (Wk.pub 10 rfl) (by simp only [rs25, rsb, vcb, ↓evSo_some, ↓reduceIte, reduceCtorEq, seval]) ?_ trivial
      simp only [rs25, rsb, vcb, ↓evSo_some, ↓reduceIte, reduceCtorEq, seval]
      rw [e0, he]
      exact VLe.sl hkl.symm (fun _ => rfl) id fun i hi => rfl
end Go.Proofs.Ytgpckelpmincmaa
end
section
set_option linter.unusedSimpArgs false
set_option linter.unusedVariables false
namespace Go.Proofs.Ytgpckelpmincmaa
set_option linter.unusedSimpArgs false
set_option linter.unusedVariables false
open Go.Bx
set_option maxRecDepth 10000
def withX (l : List Ls) (a : List Int) : List Ls := List.zipWith (fun x m => { x with amt := m }) l a
def rowX (l : List Ls) : Own := .row 39 5 l.length (fun i => [.int .i64 (l.getD i default).cl, .int .i64 (l.getD i default).ev, .int .i64 (l.getD i default).day, .int .i64 (l.getD i default).per, .int .i64 (l.getD i default).amt])
def cXD (x : Ls) : List D := [.int .i64 x.cl, .int .i64 x.ev, .int .i64 x.day, .int .i64 x.per, .int .i64 x.amt]
theorem sCloneX (l : List Ls) (hl : l.length ≤ 1000000) : Ctr Try.prog 24 [.d (slX l)] [] (.osl 7) [(7, rowX l)] [7] := by
  refine ctr_own Try.func24 ok24 rfl cc24 cr24 Try.ntmps24 (by simp) rfl ?_
  intro c hP hfn
  simp only [kc24, namesL, V.names, ownNames, slX, vcb, ↓evSo_some, ↓reduceIte, reduceCtorEq, seval]
  refine ⟨fun h => ?_, ?_⟩
  · have h' : l = [] := List.eq_nil_of_length_eq_zero h
    subst h'
    refine RetK.mk _ (Wk.row0 (s := 2) (k := 7) (e := 39) (sz := 5) (f' := fun i => cXD (([] : List Ls).getD i default)) rfl rfl (by simp)) (by simp only [rs24, rsb, vcb, ↓evSo_some, ↓reduceIte, reduceCtorEq, seval]) (by simp only [rs24, rsb, vcb, ↓evSo_some, ↓reduceIte, reduceCtorEq, seval, enb, vcb, ↓evSo_some, ↓reduceIte, reduceCtorEq, seval]) (by simp only [rowX, cXD, enb, vcb, ↓evSo_some, ↓reduceIte, reduceCtorEq, seval])
  · repeat' first
        | refine And.intro (fun h => ?_) (fun h => ?_)
        | refine And.intro (by first | omega | (simp only [maxLen, decide_eq_true_eq, decide_eq_false_iff_not] at *; omega)) ?_
        | (refine TR.aslO rfl rfl rfl rfl trivial (Nat.le_of_ble_eq_true rfl) ?_
           try simp only [vcb, ↓evSo_some, ↓reduceIte, reduceCtorEq, seval])
        | refine And.intro trivial ?_
        | refine And.intro rfl ?_
        | fail
    refine RetK.mk _ (Wk.refl _ _) (by simp only [rs24, rsb, vcb, ↓evSo_some, ↓reduceIte, reduceCtorEq, seval]) (by simp only [rs24, rsb, vcb, ↓evSo_some, ↓reduceIte, reduceCtorEq, seval, enb, vcb, ↓evSo_some, ↓reduceIte, reduceCtorEq, seval]) ?_
    simp only [rowX, enb, vcb, ↓evSo_some, ↓reduceIte, reduceCtorEq, seval]
theorem sCloneD (l : List Ls) (hl : l.length ≤ 1000000) : Ctr Try.prog 24 [.d (slX l)] [] (.d (slX l)) [] [] := by
  refine ctr_pure Try.func24 ok24 rfl cc24 cr24 Try.ntmps24 (by simp) rfl rfl ?_
  intro c hP hfn
  simp only [kc24, slX, vcb, ↓evSo_some, ↓reduceIte, reduceCtorEq, seval]
  refine ⟨fun h => ?_, ?_⟩
  · have h' : l = [] := List.eq_nil_of_length_eq_zero h
    subst h'
    refine RetK.pure (by simp only [rs24, rsb, vcb, ↓evSo_some, ↓reduceIte, reduceCtorEq, seval]) ?_
    simp only [rs24, rsb, vcb, ↓evSo_some, ↓reduceIte, reduceCtorEq, seval]
    exact VLe.nil rfl (by simp)
  · repeat' first
        | refine And.intro (fun h => ?_) (fun h => ?_)
        | refine And.intro (by first | omega | (simp only [maxLen, decide_eq_true_eq, decide_eq_false_iff_not] at *; omega)) ?_
        | (refine TR.aslO rfl rfl rfl rfl trivial (Nat.le_of_ble_eq_true rfl) ?_
           try simp only [vcb, ↓evSo_some, ↓reduceIte, reduceCtorEq, seval])
        | refine And.intro trivial ?_
        | refine And.intro rfl ?_
        | fail
    refine RetK.mk _ (Wk.pub 7 rfl) (by simp only [rs24, rsb, vcb, ↓evSo_some, ↓reduceIte, reduceCtorEq, seval]) ?_ trivial
    simp only [rs24, rsb, vcb, ↓evSo_some, ↓reduceIte, reduceCtorEq, seval, enb, vcb, ↓evSo_some, ↓reduceIte, reduceCtorEq, seval]
theorem sCloneE (l : List Ls) (hl : l.length ≤ 1000000) : Ctr Try.prog 24 [.osl 1] [(1, rowX l)] (.d (slX l)) [(1, rowX l)] [] := by
  refine ctr_own Try.func24 ok24 rfl cc24 cr24 Try.ntmps24 (by simp) rfl ?_
  intro c hP hfn
  simp only [kc24, namesL, V.names, ownNames, rowX, vcb, ↓evSo_some, ↓reduceIte, reduceCtorEq, seval]
  refine ⟨fun h => ?_, ?_⟩
  · have h' : l = [] := List.eq_nil_of_length_eq_zero h
    subst h'
    refine RetK.mk _ (Wk.refl _ _) (by simp only [rs24, rsb, vcb, ↓evSo_some, ↓reduceIte, reduceCtorEq, seval]) ?_ (by simp only [rowX, enb, vcb, ↓evSo_some, ↓reduceIte, reduceCtorEq, seval])
    simp only [rs24, rsb, vcb, ↓evSo_some, ↓reduceIte, reduceCtorEq, seval]
    exact VLe.nil rfl (by simp)
  · repeat' first
        | refine And.intro (fun h => ?_) (fun h => ?_)
        | refine And.intro (by first | omega | (simp only [maxLen, decide_eq_true_eq, decide_eq_false_iff_not] at *; omega)) ?_
        | (refine TR.aslO rfl rfl rfl rfl trivial (Nat.le_of_ble_eq_true rfl) ?_
           try simp only [vcb, ↓evSo_some, ↓reduceIte, reduceCtorEq, seval])
        | refine And.intro trivial ?_
        | refine And.intro rfl ?_
        | fail
    refine RetK.mk _ (Wk.pub 7 rfl) (by simp only [rs24, rsb, vcb, ↓evSo_some, ↓reduceIte, reduceCtorEq, seval]) ?_ ?_
    · simp only [rs24, rsb, vcb, ↓evSo_some, ↓reduceIte, reduceCtorEq, seval, slX, enb, vcb, ↓evSo_some, ↓reduceIte, reduceCtorEq, seval]
    · simp only [rowX, enb, vcb, ↓evSo_some, ↓reduceIte, reduceCtorEq, seval]
def posK (ts : List Tr) (kd : Int) (out : List Int) (t : Tr) : Nat → Nat
  | 0 => 0
  | n + 1 => if kd = 1 then n + 1 else if (ts.getD (out.getD n 0).toNat default).att ≤ t.att then n + 1 else posK ts kd out t n
theorem posK_le (ts : List Tr) (kd : Int) (out : List Int) (t : Tr) : ∀ n, posK ts kd out t n ≤ n
  | 0 => Nat.le_refl _
  | n + 1 => by
    have := posK_le ts kd out t n
    rw [posK]; split
    · omega
    · split <;> omega
def insK (ts : List Tr) (kd : Int) (out : List Int) (t : Tr) (i : Nat) : List Int := (out.take (posK ts kd out t out.length) ++ [(i : Int)]) ++ out.drop (posK ts kd out t out.length)
def kindGo (ts : List Tr) (kd : Int) : Nat → List Tr → List Int → List Int
  | _, [], out => out
  | i, t :: r, out => kindGo ts kd (i + 1) r (if t.kind = kd then insK ts kd out t i else out)
def kindT (ts : List Tr) (kd : Int) : List Int := kindGo ts kd 0 ts []
theorem insK_mem {ts : List Tr} {kd : Int} {out : List Int} {t : Tr} {i : Nat} {e : Int} (h : e ∈ insK ts kd out t i) : e ∈ out ∨ e = i := by
  simp only [insK, List.mem_append, List.mem_singleton] at h
  rcases h with (h | h) | h
  · exact .inl (List.mem_of_mem_take h)
  · exact .inr h
  · exact .inl (List.mem_of_mem_drop h)
end Go.Proofs.Ytgpckelpmincmaa
end
section
set_option linter.unusedSimpArgs false
set_option linter.unusedVariables false
namespace Go.Proofs.Ytgpckelpmincmaa
set_option linter.unusedSimpArgs false
set_option linter.unusedVariables false
open Go.Bx
theorem down_q {m s S : Int} (hm : 0 ≤ m) (hs : 0 ≤ s) (hS : 0 < S) (hsS : s ≤ S) (h4 : m ≤ 4000000000000000000) : downR m s S = (m * s / S, 0) := by
  obtain ⟨M, rfl⟩ : ∃ A : Nat, m = (A : Int) := ⟨m.toNat, by omega⟩
  obtain ⟨T, rfl⟩ : ∃ A : Nat, s = (A : Int) := ⟨s.toNat, by omega⟩
  obtain ⟨K, rfl⟩ : ∃ A : Nat, S = (A : Int) := ⟨S.toNat, by omega⟩
  have hle : M * T / K ≤ M := by
    have h1 : M * T ≤ M * K := Nat.mul_le_mul_left M (by omega)
    have h2 := Nat.div_le_div_right (c := K) h1
    rwa [Nat.mul_div_cancel M (by omega)] at h2
  rw [downR, ofR_nat M T K (by omega), if_neg (by omega)]
  simp only [upD, Bool.false_eq_true, if_false, Nat.add_zero]
  rw [if_neg (by omega)]
  simp
def dealQ (m S : Int) : Int → List Int → List Int
  | _, [] => []
  | n, p :: r => (m * (n + p) / S - m * n / S) :: dealQ m S (n + p) r
theorem quo_le {m s t S : Int} (hm : 0 ≤ m) (hS : 0 < S) (h : s ≤ t) : m * s / S ≤ m * t / S :=
  Int.ediv_le_ediv hS (Int.mul_le_mul_of_nonneg_left h hm)
theorem quo_nn {m s S : Int} (hm : 0 ≤ m) (hS : 0 < S) (h : 0 ≤ s) : 0 ≤ m * s / S :=
  Int.ediv_nonneg (Int.mul_nonneg hm h) (by omega)
theorem quo_top {m s S : Int} (hm : 0 ≤ m) (hS : 0 < S) (h : s ≤ S) : m * s / S ≤ m := by
  have := quo_le hm hS h
  rwa [Int.mul_ediv_cancel m (by omega)] at this
theorem deal2_eq {m S : Int} (hm : 0 ≤ m) (hS : 0 < S) (h4 : m ≤ 4000000000000000000) : ∀ (l : List Int) (n : Int), 0 ≤ n → (∀ x, x ∈ l → 0 ≤ x) → n + l.sum ≤ S →
    deal2 m S (m * n / S) (psums n l) = dealQ m S n l
  | [], _, _, _, _ => rfl
  | p :: r, n, hn, hx, hs => by
    have hp := hx p (by simp)
    have hr := sum_nonneg (l := r) (fun x h => hx x (by simp [h]))
    rw [List.sum_cons] at hs
    have h1 := quo_nn hm hS hn
    have h2 := quo_le hm hS (show n ≤ n + p by omega)
    have h3 := quo_top hm hS (show n + p ≤ S by omega)
    rw [psums, deal2, dealQ, down_q hm (by omega) hS (by omega) h4, deal2_eq hm hS h4 r (n + p) (by omega) (fun x h => hx x (by simp [h])) (by omega)]
    simp only
    rw [wI (by omega)]
structure SOk (m : Int) (l : List Int) : Prop where
  m0 : 0 ≤ m
  m4 : m ≤ 4000000000000000000
  n2 : l.length ≤ 2000
  nn : ∀ x, x ∈ l → 0 ≤ x
  S0 : 0 < l.sum
  S4 : l.sum ≤ 4000000000000000000
theorem split_ok {m : Int} {l : List Int} (h : SOk m l) : splitR m l = (dealQ m l.sum 0 l, 0) := by
  have := h.m0; have := h.m4; have := h.n2; have := h.S0; have := h.S4
  have e := deal2_eq h.m0 h.S0 h.m4 l 0 (by omega) h.nn (by omega)
  rw [Int.mul_zero, Int.zero_ediv] at e
  rw [splitR, if_neg (by omega), if_neg (any_nonneg h.nn), if_neg (by omega), if_neg (by omega), e]
theorem split_inv {m : Int} {l : List Int} (h : (splitR m l).2 = 0) : SOk m l := by
  unfold splitR at h
  split at h
  · cases h
  split at h
  · cases h
  rename_i h1 h2
  have hnn : ∀ x, x ∈ l → 0 ≤ x := by
    intro x hx
    by_cases h3 : x < 0
    · exact absurd (any_neg hx h3) h2
    · omega
  have := sum_nonneg hnn
  split at h
  · cases h
  split at h
  · cases h
  exact ⟨by omega, by omega, by omega, hnn, by omega, by omega⟩
theorem split_bad {m : Int} {l : List Int} (h : (splitR m l).2 ≠ 0) : (splitR m l).1 = [] := by
  unfold splitR at h ⊢
  split
  · rfl
  split
  · rfl
  split
  · rfl
  split
  · rfl
  · rename_i h1 h2 h3 h4; simp [h1, h2, h3, h4] at h
theorem dealQ_len (m S : Int) : ∀ (l : List Int) (n : Int), (dealQ m S n l).length = l.length
  | [], _ => rfl
  | p :: r, n => by simp [dealQ, dealQ_len m S r]
theorem dealQ_take (m S : Int) : ∀ (k : Nat) (l : List Int) (n : Int), ((dealQ m S n l).take k).sum = m * (n + (l.take k).sum) / S - m * n / S
  | 0, l, n => by simp
  | k + 1, [], n => by simp [dealQ]
  | k + 1, p :: r, n => by simp [dealQ, dealQ_take m S k r, Int.add_assoc]; omega
theorem take_sum {l : List Int} {k : Nat} (h : k < l.length) : (l.take (k + 1)).sum = (l.take k).sum + l.getD k 0 := by
  obtain ⟨x, hd, hg, -, hat⟩ := drop_at h
  rw [List.take_add_one, hat, hg]; simp
theorem dealQ_at {m S : Int} {l : List Int} {k : Nat} (h : k < l.length) : (dealQ m S 0 l).getD k 0 = m * (l.take (k + 1)).sum / S - m * (l.take k).sum / S := by
  have h1 := take_sum (l := dealQ m S 0 l) (k := k) (by rw [dealQ_len]; exact h)
  rw [dealQ_take, dealQ_take] at h1
  simp only [Int.zero_add] at h1
  omega
end Go.Proofs.Ytgpckelpmincmaa
end
section
set_option linter.unusedSimpArgs false
set_option linter.unusedVariables false
namespace Go.Proofs.Ytgpckelpmincmaa
set_option linter.unusedSimpArgs false
set_option linter.unusedVariables false
open Go.Bx
set_option maxRecDepth 10000
structure BOk (t : Tr) (l : List Ls) (b : List Int) : Prop where
  len : b.length = l.length
  nn : ∀ i, 0 ≤ b.getD i 0
  take : ∀ i, i < l.length → takesT t (l.getD i default) = false → b.getD i 0 = 0
theorem deal_ok (t : Tr) : ∀ (l : List Ls) (left : Int), 0 ≤ left → left ≤ 200000000000000000 → (∀ x, x ∈ l → lossX x = true) → BOk t l (dealT t left l) ∧ (dealT t left l).sum ≤ left
  | [], left, h0, _, _ => ⟨⟨rfl, fun i => by simp [dealT], fun i hi => by simp at hi⟩, by simpa [dealT] using h0⟩
  | x :: r, left, h0, h1, hx => by
    have hxx := lossX_iff.1 (hx x (by simp))
    have hp := part_bounds t (amt := x.amt) (by omega) (by omega)
    rw [dealT]
    by_cases h : takesT t x = true
    · rw [if_pos h, wI (by omega)]
      obtain ⟨g1, g2⟩ := deal_ok t r (left - min (partT t x.amt) left) (by omega) (by omega) (fun y hy => hx y (by simp [hy]))
      refine ⟨⟨by simp [g1.len], fun i => ?_, fun i hi ht => ?_⟩, by simp only [List.sum_cons]; omega⟩
      · cases i with
        | zero => simp only [List.getD_cons_zero]; omega
        | succ i => simpa using g1.nn i
      · cases i with
        | zero => simp only [List.getD_cons_zero] at ht; rw [h] at ht; cases ht
        | succ i => simpa using g1.take i (by simpa using hi) (by simpa using ht)
    · rw [if_neg h]
      obtain ⟨g1, g2⟩ := deal_ok t r left h0 h1 (fun y hy => hx y (by simp [hy]))
      refine ⟨⟨by simp [g1.len], fun i => ?_, fun i hi ht => ?_⟩, by simp only [List.sum_cons]; omega⟩
      · cases i with
        | zero => simp
        | succ i => simpa using g1.nn i
      · cases i with
        | zero => simp
        | succ i => simpa using g1.take i (by simpa using hi) (by simpa using ht)
theorem split_ok2 {m : Int} (l : List Int) (h0 : 0 ≤ m) : (∀ d, d ∈ (splitR m l).1 → 0 ≤ d) ∧ (splitR m l).1.sum ≤ m := by
  by_cases h : (splitR m l).2 = 0
  · have ok := split_inv h
    have e := split_ok ok
    have hS : 0 < l.sum := ok.S0
    rw [e]
    refine ⟨fun d hd => ?_, ?_⟩
    · obtain ⟨k, hk⟩ := List.mem_iff_getElem?.1 hd
      have hkl : k < l.length := by have := (List.getElem?_eq_some_iff.1 hk).1; simpa [dealQ_len] using this
      have h2 := dealQ_at (m := m) (S := l.sum) hkl
      have h3 := take_sum hkl
      have hm : l.getD k 0 ∈ l := by rw [List.getD_eq_getElem?_getD, List.getElem?_eq_getElem hkl]; exact List.getElem_mem hkl
      have h4 := ok.nn _ hm
      have h5 := quo_le (s := (l.take k).sum) (t := (l.take (k + 1)).sum) h0 hS (by omega)
      rw [List.getD_eq_getElem?_getD, hk, Option.getD_some] at h2
      omega
    · have h2 := dealQ_take m l.sum l.length l 0
      rw [List.take_of_length_le (by rw [dealQ_len]; exact Nat.le_refl _), List.take_length] at h2
      rw [h2]
      have : m * (0 + l.sum) / l.sum = m := by rw [Int.zero_add]; exact Int.mul_ediv_cancel _ (by omega)
      simp only [this]; simp
  · rw [split_bad h]; simpa using h0
theorem sum_set {d : Int} (h0 : 0 ≤ d) : ∀ (out : List Int) (i : Nat), 0 ≤ out.getD i 0 → (out.set i d).sum ≤ out.sum + d
  | [], i, _ => by simpa using h0
  | a :: r, 0, h => by simp only [List.getD_cons_zero] at h; simp only [List.set_cons_zero, List.sum_cons]; omega
  | a :: r, i + 1, h => by
    have := sum_set h0 r i (by simpa using h)
    simp only [List.set_cons_succ, List.sum_cons]; omega
theorem putAll_ok (P : Nat → Prop) : ∀ (g ds out : List Int), (∀ d, d ∈ ds → 0 ≤ d) → (∀ i, i ∈ g → P i.toNat) → (∀ j, 0 ≤ out.getD j 0 ∧ (¬ P j → out.getD j 0 = 0)) →
    (∀ j, 0 ≤ (putAll out g ds).getD j 0 ∧ (¬ P j → (putAll out g ds).getD j 0 = 0)) ∧ (putAll out g ds).sum ≤ out.sum + ds.sum
  | [], ds, out, hd, _, ho => by
    refine ⟨by simpa [putAll] using ho, ?_⟩
    have := sum_nonneg hd
    simp only [putAll]; omega
  | i :: g, [], out, _, _, ho => ⟨by simpa [putAll] using ho, by simp [putAll]⟩
  | i :: g, d :: ds, out, hd, hg, ho => by
    rw [putAll]
    have h0 := hd d (by simp)
    have hs := sum_set h0 out i.toNat (ho i.toNat).1
    obtain ⟨g1, g2⟩ := putAll_ok P g ds (out.set i.toNat d) (fun x hx => hd x (by simp [hx])) (fun x hx => hg x (by simp [hx])) (fun j => by
      by_cases e : i.toNat = j
      · subst e
        have hP := hg i (by simp)
        refine ⟨?_, fun h => absurd hP h⟩
        by_cases hl : i.toNat < out.length
        · rw [List.getD_eq_getElem?_getD, List.getElem?_set_self hl]; exact h0
        · rw [List.getD_eq_getElem?_getD, List.getElem?_eq_none (by simp; omega)]; simp
      · rw [List.getD_eq_getElem?_getD, List.getElem?_set_ne e, ← List.getD_eq_getElem?_getD]; exact ho j)
    refine ⟨g1, ?_⟩
    simp only [List.sum_cons]; omega
theorem bearsF_ok (t : Tr) (l : List Ls) (P : Nat → Prop) (hl : l.length ≤ 2000) (hx : ∀ x, x ∈ l → lossX x = true) : ∀ (G : List (List Int)) (left : Int) (out : List Int), 0 ≤ left →
    (∀ g, g ∈ G → g.length ≤ l.length ∧ ∀ i, i ∈ g → 0 ≤ i ∧ i < (l.length : Int) ∧ P i.toNat) → (∀ j, 0 ≤ out.getD j 0 ∧ (¬ P j → out.getD j 0 = 0)) →
    (∀ j, 0 ≤ (bearsF t l left G out).getD j 0 ∧ (¬ P j → (bearsF t l left G out).getD j 0 = 0)) ∧ (bearsF t l left G out).sum ≤ out.sum + left ∧ (bearsF t l left G out).length = out.length
  | [], left, out, h0, _, ho => ⟨by simpa [bearsF] using ho, by simp only [bearsF]; omega, rfl⟩
  | g :: G, left, out, h0, hG, ho => by
    have hg := hG g (by simp)
    have ha := amts_bounds hx (g := g) (fun i hi => ⟨(hg.2 i hi).1, (hg.2 i hi).2.1⟩)
    have hs : (amtsT l g).sum ≤ 1000000000000000 * 2000 := by
      have : (g.length : Int) ≤ 2000 := by have := hg.1; omega
      have h2 : (1000000000000000 : Int) * g.length ≤ 1000000000000000 * 2000 := by omega
      omega
    have hp := part_nn t (amt := (amtsT l g).sum) ha.2.1 (by omega)
    obtain ⟨d1, d2⟩ := split_ok2 (m := min left (partT t (amtsT l g).sum)) (amtsT l g) (by omega)
    obtain ⟨p1, p2⟩ := putAll_ok P g _ out d1 (fun i hi => (hg.2 i hi).2.2) ho
    obtain ⟨f1, f2, f3⟩ := bearsF_ok t l P hl hx G (left - min left (partT t (amtsT l g).sum)) _ (by omega) (fun g' hg' => hG g' (by simp [hg'])) p1
    rw [bearsF]
    exact ⟨f1, by omega, by rw [f3, putAll_len]⟩
theorem evRun_takes (t : Tr) (all : List Ls) : ∀ (l : List Ls) (k : Nat) (s : EvS), all.drop k = l → (∀ g, g ∈ s.G → ∀ i, i ∈ g → takesT t (all.getD i.toNat default) = true) → ∀ g, g ∈ (evRun t k l s).G → ∀ i, i ∈ g → takesT t (all.getD i.toNat default) = true
  | [], _, s, _, hs => by simpa [evRun] using hs
  | x :: r, k, s, hd, hs => by
    rw [evRun]
    have hk : k < all.length := by
      by_cases h : k < all.length
      · exact h
      · rw [List.drop_eq_nil_of_le (by omega)] at hd; cases hd
    obtain ⟨x', hd', hg, -, -⟩ := drop_at hk
    rw [hd] at hd'
    cases hd'
    refine evRun_takes t all _ (k + 1) _ rfl ?_
    unfold evStep
    split
    · rename_i ht
      have hkx : takesT t (all.getD ((k : Int)).toNat default) = true := by rw [Int.toNat_natCast, hg]; exact ht
      split
      · intro g hg' i hi
        rcases List.mem_or_eq_of_mem_set hg' with h1 | h1
        · exact hs g h1 i hi
        · subst h1
          rcases List.mem_append.1 hi with h2 | h2
          · by_cases hl : (s.kn x.ev - 1).toNat < s.G.length
            · rw [List.getD_eq_getElem?_getD, List.getElem?_eq_getElem hl] at h2
              exact hs _ (List.getElem_mem hl) i h2
            · rw [List.getD_eq_getElem?_getD, List.getElem?_eq_none (by omega)] at h2; simp at h2
          · simp at h2; subst h2; exact hkx
      · intro g hg' i hi
        rcases List.mem_append.1 hg' with h1 | h1
        · exact hs g h1 i hi
        · simp at h1; subst h1; simp at hi; subst hi; exact hkx
    · exact hs
theorem bears_ok (t : Tr) (l : List Ls) (ht : rightT t = true) (hl : l.length ≤ 2000) (hx : ∀ x, x ∈ l → lossX x = true) : BOk t l (bearsA t l) ∧ (t.kind ≠ 1 → (bearsA t l).sum ≤ roomT t) := by
  have hroom := roomT_eq t
  have hany : l.any (fun x => !(lossX x)) = false := List.any_eq_false.2 fun x h => by simp [hx x h]
  unfold bearsA
  by_cases h2 : t.kind = 2
  · rw [if_pos h2]
    have e : bearsT t l = (dealT t (roomT t) l, 0) := by
      rw [bearsT, if_neg (by rw [ht, hany, h2]; simp), if_neg (by omega)]
    rw [e]
    obtain ⟨g1, g2⟩ := deal_ok t l (roomT t) (by omega) (by omega) hx
    exact ⟨g1, fun _ => g2⟩
  · rw [if_neg h2]
    by_cases h3 : t.kind = 3
    · rw [if_pos h3]
      have e : bearsE t l = (bearsF t l (roomT t) (eventsT t l) (List.replicate l.length 0), 0) := by
        rw [bearsE, if_neg (by rw [ht, hany, h3]; simp), if_neg (by omega)]
      rw [e]
      obtain ⟨e1, e2, e3⟩ := events_ok t l
      have e4 := evRun_takes t l l 0 ⟨[], fun _ => 0⟩ rfl (by simp)
      have hz : ∀ (n j : Nat), (List.replicate n (0 : Int)).getD j 0 = 0 := fun n j => by
        rw [List.getD_eq_getElem?_getD, List.getElem?_replicate]; split <;> rfl
      obtain ⟨f1, f2, f3⟩ := bearsF_ok t l (fun j => takesT t (l.getD j default) = true) hl hx (eventsT t l) (roomT t) (List.replicate l.length 0) (by omega)
        (fun g hg => ⟨(e2 g hg).2, fun i hi => ⟨(e3 g hg i hi).1, (e3 g hg i hi).2, e4 g hg i hi⟩⟩) (fun j => by rw [hz]; simp)
      refine ⟨⟨by rw [f3]; simp, fun i => (f1 i).1, fun i hi hh => (f1 i).2 (by rw [hh]; simp)⟩, fun _ => ?_⟩
      have : (List.replicate l.length (0 : Int)).sum = 0 := by simp
      simp only; omega
    · rw [if_neg h3]
      refine ⟨⟨by simp, fun i => ?_, fun i hi hh => ?_⟩, fun h => absurd ?_ h⟩
      · rw [List.getD_eq_getElem?_getD, List.getElem?_map]
        cases h : l[i]? with
        | none => simp
        | some x =>
          simp only [Option.map_some, Option.getD_some, bearsQ_eq]
          split
          · rename_i hh; have := bears_m hh.1 hh.2; simp only; omega
          · simp
      · rw [List.getD_eq_getElem?_getD, List.getElem?_map, List.getElem?_eq_getElem hi]
        rw [List.getD_eq_getElem?_getD, List.getElem?_eq_getElem hi, Option.getD_some] at hh
        simp only [Option.map_some, Option.getD_some, bearsQ_eq, hh]; simp
      · unfold rightT at ht
        by_cases h1 : t.kind = 1
        · exact h1
        · rw [if_neg h1, if_neg (by omega)] at ht; simp at ht
end Go.Proofs.Ytgpckelpmincmaa
end
section
set_option linter.unusedSimpArgs false
set_option linter.unusedVariables false
namespace Go.Proofs.Ytgpckelpmincmaa
set_option linter.unusedSimpArgs false
set_option linter.unusedVariables false
section
variable {X : Type} (d : X) (less : X → X → Bool)
def swp (l : List X) (i j : Nat) : List X := (l.set i (l.getD j d)).set j (l.getD i d)
theorem swp_len (l : List X) (i j : Nat) : (swp d l i j).length = l.length := by simp [swp]
theorem swp_get {l : List X} {i j : Nat} (hi : i < l.length) (hj : j < l.length) (m : Nat) : (swp d l i j).getD m d = if m = j then l.getD i d else if m = i then l.getD j d else l.getD m d := by
  simp only [swp, List.getD_eq_getElem?_getD, List.getElem?_set, List.length_set]
  by_cases h1 : j = m
  · subst h1; simp [hj]
  · have h1' : ¬ m = j := fun e => h1 e.symm
    rw [if_neg h1, if_neg h1']
    by_cases h2 : i = m
    · subst h2; simp [hi]
    · have h2' : ¬ m = i := fun e => h2 e.symm
      rw [if_neg h2, if_neg h2']
theorem swp_perm {l : List X} {i j : Nat} (hi : i < l.length) (hj : j < l.length) : (swp d l i j).Perm l := by
  have := List.set_set_perm hi hj
  simpa [swp, List.getD_eq_getElem?_getD, List.getElem?_eq_getElem hi, List.getElem?_eq_getElem hj] using this
def upL (j : Nat) (l : List X) : List X :=
  if _h : j = 0 then l else if less (l.getD j d) (l.getD ((j - 1) / 2) d) then upL ((j - 1) / 2) (swp d l ((j - 1) / 2) j) else l
termination_by j
decreasing_by omega
def kidL (i n : Nat) (l : List X) : Nat := if 2 * i + 2 < n ∧ less (l.getD (2 * i + 2) d) (l.getD (2 * i + 1) d) = true then 2 * i + 2 else 2 * i + 1
theorem kid_gt (i n : Nat) (l : List X) : i < kidL d less i n l := by unfold kidL; split <;> omega
def downL (i n : Nat) (l : List X) : List X :=
  if h : 2 * i + 1 < n then if less (l.getD (kidL d less i n l) d) (l.getD i d) then downL (kidL d less i n l) n (swp d l i (kidL d less i n l)) else l else l
termination_by n - i
decreasing_by
  have := kid_gt d less i n l
  omega
def pushL (l : List X) (x : X) : List X := upL d less l.length (l ++ [x])
def popL (l : List X) : List X := downL d less 0 (l.length - 1) (swp d l 0 (l.length - 1))
theorem upL_len (j : Nat) (l : List X) : (upL d less j l).length = l.length := by
  induction j using Nat.strongRecOn generalizing l with
  | _ j ih =>
    rw [upL]
    split
    · rfl
    · split
      · rw [ih _ (by omega), swp_len]
      · rfl
theorem downL_len (i n : Nat) (l : List X) : (downL d less i n l).length = l.length := by
  generalize hm : n - i = m
  induction m using Nat.strongRecOn generalizing i l with
  | _ m ih =>
    rw [downL]
    split
    · split
      · have := kid_gt d less i n l
        rw [ih _ (by omega) _ _ rfl, swp_len]
      · rfl
    · rfl
theorem upL_perm (j : Nat) {l : List X} (hj : j < l.length) : (upL d less j l).Perm l := by
  induction j using Nat.strongRecOn generalizing l with
  | _ j ih =>
    rw [upL]
    split
    · exact List.Perm.refl _
    · split
      · exact (ih _ (by omega) (by rw [swp_len]; omega)).trans (swp_perm d (by omega) hj)
      · exact List.Perm.refl _
theorem kid_lt {i n : Nat} {l : List X} (h : 2 * i + 1 < n) : kidL d less i n l < n := by unfold kidL; split <;> omega
theorem downL_perm (i n : Nat) {l : List X} (hn : n ≤ l.length) : (downL d less i n l).Perm l := by
  generalize hm : n - i = m
  induction m using Nat.strongRecOn generalizing i l with
  | _ m ih =>
    rw [downL]
    split
    · rename_i h
      split
      · have h1 := kid_gt d less i n l
        have h2 := kid_lt d less (l := l) h
        exact (ih _ (by omega) _ (by rw [swp_len]; exact hn) rfl).trans (swp_perm d (by omega) (by omega))
      · exact List.Perm.refl _
    · exact List.Perm.refl _
theorem downL_above (i n : Nat) {l : List X} (hn : n ≤ l.length) (m : Nat) (hm : n ≤ m) : (downL d less i n l).getD m d = l.getD m d := by
  generalize hk : n - i = k
  induction k using Nat.strongRecOn generalizing i l with
  | _ k ih =>
    rw [downL]
    split
    · rename_i h
      split
      · have h1 := kid_gt d less i n l
        have h2 := kid_lt d less (l := l) h
        rw [ih _ (by omega) _ (by rw [swp_len]; exact hn) rfl, swp_get d (by omega) (by omega), if_neg (by omega), if_neg (by omega)]
      · rfl
    · rfl
def Heap (n : Nat) (l : List X) : Prop := ∀ i, 0 < i → i < n → less (l.getD i d) (l.getD ((i - 1) / 2) d) = false
variable (htr : ∀ a b c, less b a = false → less c b = false → less c a = false) (has : ∀ a b, less a b = true → less b a = false)
include htr has
theorem up_heap (j n : Nat) {l : List X} (hn : n = l.length) (hj : j < n) (h1 : ∀ i, 0 < i → i < n → i ≠ j → less (l.getD i d) (l.getD ((i - 1) / 2) d) = false)
    (h2 : ∀ i, 0 < i → i < n → (i - 1) / 2 = j → 0 < j → less (l.getD i d) (l.getD ((j - 1) / 2) d) = false) : Heap d less n (upL d less j l) := by
  induction j using Nat.strongRecOn generalizing l with
  | _ j ih =>
    rw [upL]
    split
    · rename_i h0
      subst h0
      exact fun i hi hin => h1 i hi hin (by omega)
    · rename_i h0
      split
      · rename_i hl
        have hp : (j - 1) / 2 < l.length := by omega
        have hg := fun m => swp_get d hp (hn ▸ hj) m
        generalize hpe : (j - 1) / 2 = p at *
        have hpj : p < j := by omega
        refine ih p hpj (by rw [swp_len]; exact hn) (by omega) (fun i hi hin hne => ?_) (fun i hi hin hpi h0p => ?_)
        · rw [hg i, hg ((i - 1) / 2)]
          by_cases e1 : i = j
          · subst e1
            rw [if_pos rfl, hpe, if_neg (by omega), if_pos rfl]
            exact has _ _ hl
          · rw [if_neg e1, if_neg hne]
            by_cases e2 : (i - 1) / 2 = j
            · rw [if_pos e2]
              exact h2 i hi hin e2 (by omega)
            · rw [if_neg e2]
              by_cases e3 : (i - 1) / 2 = p
              · rw [if_pos e3]
                have := h1 i hi hin e1
                rw [e3] at this
                exact htr _ _ _ (has _ _ hl) this
              · rw [if_neg e3]
                exact h1 i hi hin e1
        · rw [hg i, hg ((p - 1) / 2)]
          rw [if_neg (show ¬ (p - 1) / 2 = j by omega), if_neg (show ¬ (p - 1) / 2 = p by omega)]
          have hpp := h1 p h0p (by omega) (by omega)
          by_cases e1 : i = j
          · rw [if_pos e1]; exact hpp
          · rw [if_neg e1, if_neg (by omega)]
            have := h1 i hi hin e1
            rw [hpi] at this
            exact htr _ _ _ hpp this
      · rename_i hl
        intro i hi hin
        by_cases e : i = j
        · subst e; simpa using hl
        · exact h1 i hi hin e
theorem down_heap (i0 n : Nat) {l : List X} (hn : n ≤ l.length) (h1 : ∀ i, 0 < i → i < n → (i - 1) / 2 ≠ i0 → less (l.getD i d) (l.getD ((i - 1) / 2) d) = false)
    (h2 : ∀ i, 0 < i → i < n → (i - 1) / 2 = i0 → 0 < i0 → less (l.getD i d) (l.getD ((i0 - 1) / 2) d) = false) : Heap d less n (downL d less i0 n l) := by
  generalize hk : n - i0 = k
  induction k using Nat.strongRecOn generalizing i0 l with
  | _ k ih =>
    rw [downL]
    split
    · rename_i h
      have hkg := kid_gt d less i0 n l
      have hkl := kid_lt d less (l := l) h
      have hmin : ∀ i, 0 < i → i < n → (i - 1) / 2 = i0 → i ≠ kidL d less i0 n l → less (l.getD i d) (l.getD (kidL d less i0 n l) d) = false := by
        intro i hi hin hp hne
        unfold kidL at hne ⊢
        split at hne
        · rename_i hc
          rw [if_pos hc]
          have : i = 2 * i0 + 1 := by omega
          subst this
          exact has _ _ hc.2
        · rename_i hc
          rw [if_neg hc]
          have : i = 2 * i0 + 2 := by omega
          subst this
          have : ¬ less (l.getD (2 * i0 + 2) d) (l.getD (2 * i0 + 1) d) = true := fun e => hc ⟨hin, e⟩
          simpa using this
      have hpk : (kidL d less i0 n l - 1) / 2 = i0 := by unfold kidL; split <;> omega
      generalize kidL d less i0 n l = j at *
      split
      · rename_i hl
        have hg := fun m => swp_get d (l := l) (i := i0) (j := j) (by omega) (by omega) m
        refine ih (n - j) (by omega) j (by rw [swp_len]; exact hn) (fun i hi hin hne => ?_) (fun i hi hin hpi h0j => ?_) rfl
        · rw [hg i, hg ((i - 1) / 2), if_neg (show ¬ (i - 1) / 2 = j from hne)]
          by_cases e1 : i = j
          · rw [if_pos e1, if_pos (by rw [e1]; exact hpk)]
            exact has _ _ hl
          · rw [if_neg e1]
            by_cases e2 : (i - 1) / 2 = i0
            · rw [if_neg (by omega), if_pos e2]
              exact hmin i hi hin e2 e1
            · rw [if_neg e2]
              by_cases e3 : i = i0
              · rw [if_pos e3, e3]
                exact h2 j (by omega) hkl hpk (by omega)
              · rw [if_neg e3]
                exact h1 i hi hin e2
        · rw [hpk, hg i, hg i0, if_neg (by omega), if_neg (by omega), if_neg (by omega), if_pos rfl]
          have := h1 i hi hin (by omega)
          rw [hpi] at this
          exact this
      · rename_i hl
        have hl : less (l.getD j d) (l.getD i0 d) = false := by simpa using hl
        intro i hi hin
        by_cases e : (i - 1) / 2 = i0
        · by_cases e1 : i = j
          · rw [e1, hpk]; exact hl
          · rw [e]
            exact htr _ _ _ hl (hmin i hi hin e e1)
        · exact h1 i hi hin e
    · rename_i h
      intro i hi hin
      exact h1 i hi hin (by omega)
omit has in
theorem heap_min {n : Nat} {l : List X} (h : Heap d less n l) (hrf : ∀ a, less a a = false) : ∀ i, i < n → less (l.getD i d) (l.getD 0 d) = false := by
  intro i
  induction i using Nat.strongRecOn with
  | _ i ih =>
    intro hi
    by_cases e : i = 0
    · subst e; exact hrf _
    · exact htr _ _ _ (ih ((i - 1) / 2) (by omega) (by omega)) (h i (by omega) hi)
theorem push_heap {l : List X} (x : X) (h : Heap d less l.length l) : Heap d less (pushL d less l x).length (pushL d less l x) := by
  unfold pushL
  rw [upL_len]
  have hget : ∀ i, i < l.length → (l ++ [x]).getD i d = l.getD i d := fun i hi => by simp [List.getD_eq_getElem?_getD, List.getElem?_append_left hi]
  refine up_heap d less htr has l.length _ rfl (by simp) (fun i hi hin hne => ?_) (fun i hi hin hp h0 => ?_)
  · simp at hin
    rw [hget i (by omega), hget _ (by omega)]
    exact h i hi (by omega)
  · simp at hin; omega
omit htr has in
theorem push_perm (l : List X) (x : X) : (pushL d less l x).Perm (l ++ [x]) := upL_perm d less _ (by simp)
theorem pop_ok {l : List X} (h : Heap d less l.length l) (h0 : 0 < l.length) : (popL d less l).length = l.length ∧ (popL d less l).getD (l.length - 1) d = l.getD 0 d ∧ Heap d less (l.length - 1) ((popL d less l).take (l.length - 1)) ∧ ((popL d less l).getD (l.length - 1) d :: (popL d less l).take (l.length - 1)).Perm l := by
  have hlen : (popL d less l).length = l.length := by rw [popL, downL_len, swp_len]
  have hg := fun m => swp_get d (l := l) (i := 0) (j := l.length - 1) h0 (by omega) m
  have hx : (popL d less l).getD (l.length - 1) d = l.getD 0 d := by
    rw [popL, downL_above d less 0 (l.length - 1) (by rw [swp_len]; omega) _ (Nat.le_refl _), hg, if_pos rfl]
  have hheap : Heap d less (l.length - 1) (popL d less l) := by
    refine down_heap d less htr has 0 _ (by rw [swp_len]; omega) (fun i hi hin hp => ?_) (fun i hi hin hp h00 => by omega)
    rw [hg i, hg ((i - 1) / 2), if_neg (by omega), if_neg (by omega), if_neg (by omega), if_neg hp]
    exact h i hi (by omega)
  refine ⟨hlen, hx, fun i hi hin => ?_, ?_⟩
  · have hget : ∀ i, i < l.length - 1 → ((popL d less l).take (l.length - 1)).getD i d = (popL d less l).getD i d := fun i hi => by
      simp [List.getD_eq_getElem?_getD, List.getElem?_take, hi]
    rw [hget i hin, hget _ (by omega)]
    exact hheap i hi hin
  · have hp : (popL d less l).Perm l := by
      unfold popL
      exact (downL_perm d less _ _ (by rw [swp_len]; omega)).trans (swp_perm d h0 (by omega))
    refine List.Perm.trans ?_ hp
    generalize popL d less l = r at *
    have e : r = r.take (l.length - 1) ++ [r.getD (l.length - 1) d] := by
      have h5 : r.drop (l.length - 1) = [r.getD (l.length - 1) d] := by
        rw [List.drop_eq_getElem_cons (by omega), List.drop_eq_nil_of_le (by omega)]
        simp [List.getD_eq_getElem?_getD, List.getElem?_eq_getElem (show l.length - 1 < r.length by omega)]
      rw [← h5, List.take_append_drop]
    conv => rhs; rw [e]
    exact (List.perm_append_comm (l₁ := [_]))
def drainL : Nat → List X → List X
  | 0, _ => []
  | k + 1, l => (popL d less l).getD (l.length - 1) d :: drainL k ((popL d less l).take (l.length - 1))
theorem drain_ok (hrf : ∀ a, less a a = false) : ∀ (k : Nat) {l : List X}, l.length = k → Heap d less l.length l → (drainL d less k l).Pairwise (fun a b => less b a = false) ∧ (drainL d less k l).Perm l
  | 0, l, h, _ => by
    have : l = [] := List.eq_nil_of_length_eq_zero h
    subst this
    exact ⟨List.Pairwise.nil, List.Perm.refl _⟩
  | k + 1, l, hk, h => by
    obtain ⟨h1, h2, h3, h4⟩ := pop_ok d less htr has h (by omega)
    have hl : ((popL d less l).take (l.length - 1)).length = k := by rw [List.length_take, h1]; omega
    obtain ⟨g1, g2⟩ := drain_ok hrf k hl (by rw [hl]; have : k = l.length - 1 := by omega
                                             rw [this]; exact h3)
    refine ⟨?_, ?_⟩
    · simp only [drainL]
      refine List.Pairwise.cons (fun b hb => ?_) g1
      have hb1 := g2.mem_iff.1 hb
      have hb2 : b ∈ l := h4.mem_iff.1 (List.mem_cons_of_mem _ hb1)
      obtain ⟨i, hi⟩ := List.mem_iff_getElem?.1 hb2
      have hil : i < l.length := (List.getElem?_eq_some_iff.1 hi).1
      have := heap_min d less htr h hrf i hil
      rw [h2]
      rwa [List.getD_eq_getElem?_getD, hi] at this
    · simp only [drainL]
      exact (List.Perm.cons _ g2).trans h4
theorem pushes_ok (xs : List X) : ∀ (l : List X), Heap d less l.length l → Heap d less (xs.foldl (pushL d less) l).length (xs.foldl (pushL d less) l) ∧ (xs.foldl (pushL d less) l).Perm (l ++ xs) := by
  induction xs with
  | nil => intro l h; exact ⟨h, by simp⟩
  | cons x xs ih =>
    intro l h
    obtain ⟨g1, g2⟩ := ih (pushL d less l x) (push_heap d less htr has x h)
    refine ⟨g1, g2.trans ?_⟩
    have := (push_perm d less l x).append_right xs
    simpa using this
theorem hsort_ok (hrf : ∀ a, less a a = false) (xs : List X) : (drainL d less xs.length (xs.foldl (pushL d less) [])).Pairwise (fun a b => less b a = false) ∧ (drainL d less xs.length (xs.foldl (pushL d less) [])).Perm xs := by
  obtain ⟨g1, g2⟩ := pushes_ok d less htr has xs [] (fun i hi hin => by simp at hin)
  have hl : (xs.foldl (pushL d less) []).length = xs.length := by simpa using g2.length_eq
  obtain ⟨h1, h2⟩ := drain_ok d less htr has hrf xs.length hl g1
  exact ⟨h1, h2.trans (by simpa using g2)⟩
end
end Go.Proofs.Ytgpckelpmincmaa
end
section
set_option linter.unusedSimpArgs false
set_option linter.unusedVariables false
namespace Go.Proofs.Ytgpckelpmincmaa
set_option linter.unusedSimpArgs false
set_option linter.unusedVariables false
open Go.Bx
set_option maxRecDepth 10000
structure Pl where
  k : Int
  a : Int
  i : Int
  deriving Inhabited, DecidableEq
def rowP (l : List Pl) : Own := .row 61 3 l.length (fun i => [.int .i64 (l.getD i default).k, .int .i64 (l.getD i default).a, .int .i64 (l.getD i default).i])
def vP (p : Pl) : V := .ag [.d (.int .i64 p.k), .d (.int .i64 p.a), .d (.int .i64 p.i)]
def cmpI (a b : Int) : Int := if a < b then -1 else if b < a then 1 else 0
theorem sNaN (a : Int) : Ctr Try.prog 118 [.d (.int .i64 a)] [] (.d (.bool false)) [] [] := by
  refine ctr_pure Try.func118 ok118 rfl cc118 cr118 Try.ntmps118 (by simp) rfl rfl ?_; intro c hP hfn; simp only [kc118, vcb, ↓evSo_some, ↓reduceIte, reduceCtorEq, seval]
  exact RetK.pure (by simp only [rs118, rsb, vcb, ↓evSo_some, ↓reduceIte, reduceCtorEq, seval]) (by (simp only [rs118, rsb, vcb, ↓evSo_some, ↓reduceIte, reduceCtorEq, seval, enb, vcb, ↓evSo_some, ↓reduceIte, reduceCtorEq, seval]) <;> (first | simp))
theorem sCmpI (a b : Int) : Ctr Try.prog 117 [.d (.int .i64 a), .d (.int .i64 b)] [] (.d (.int .i64 (cmpI a b))) [] [] := by
  refine ctr_pure Try.func117 ok117 rfl cc117 cr117 Try.ntmps117 (by simp) rfl rfl ?_; intro c hP hfn; simp only [kc117, vcb, ↓evSo_some, ↓reduceIte, reduceCtorEq, seval]
  repeat' first
      | (first
          | refine TR.p hP (by first | exact sNaN a | exact sNaN b) (by repeat' first | exact trivial | (intro _; assumption) | apply And.intro) ?_
          | refine TR.gp hP rfl (fun _ => by first | exact sNaN a | exact sNaN b) (fun _ => by repeat' first | exact trivial | (intro _; assumption) | apply And.intro) ?_
          | refine TR.pv hP rfl (by first | exact sNaN a | exact sNaN b) trivial (by repeat' first | exact trivial | (intro _; assumption) | apply And.intro) ?_
         try simp only [vcb, ↓evSo_some, ↓reduceIte, reduceCtorEq, seval])
      | refine And.intro (fun h => ?_) (fun h => ?_)
      | refine And.intro (by first | omega | (simp only [maxLen, decide_eq_true_eq, decide_eq_false_iff_not] at *; omega)) ?_
      | (refine TR.aslO rfl rfl rfl rfl trivial (Nat.le_of_ble_eq_true rfl) ?_
         try simp only [vcb, ↓evSo_some, ↓reduceIte, reduceCtorEq, seval])
      | refine And.intro trivial ?_
      | refine And.intro rfl ?_
      | fail
  · have h' := of_decide_eq_true h
    exact RetK.pure (by simp only [rs117, rsb, vcb, ↓evSo_some, ↓reduceIte, reduceCtorEq, seval]) (by (simp only [rs117, rsb, vcb, ↓evSo_some, ↓reduceIte, reduceCtorEq, seval, enb, vcb, ↓evSo_some, ↓reduceIte, reduceCtorEq, seval]) <;> (first | simp [cmpI, h']))
  · have h' := of_decide_eq_true h
    have h2 : ¬ a < b := by omega
    exact RetK.pure (by simp only [rs117, rsb, vcb, ↓evSo_some, ↓reduceIte, reduceCtorEq, seval]) (by (simp only [rs117, rsb, vcb, ↓evSo_some, ↓reduceIte, reduceCtorEq, seval, enb, vcb, ↓evSo_some, ↓reduceIte, reduceCtorEq, seval]) <;> (first | simp only [cmpI, if_neg h2, if_pos h']))
  · rename_i h0
    have h' := of_decide_eq_false h
    have h2 := of_decide_eq_false h0
    exact RetK.pure (by simp only [rs117, rsb, vcb, ↓evSo_some, ↓reduceIte, reduceCtorEq, seval]) (by (simp only [rs117, rsb, vcb, ↓evSo_some, ↓reduceIte, reduceCtorEq, seval, enb, vcb, ↓evSo_some, ↓reduceIte, reduceCtorEq, seval]) <;> (first | simp only [cmpI, if_neg h2, if_neg h']))
def cmp3 (a b : Pl) : Int := if cmpI a.k b.k ≠ 0 then cmpI a.k b.k else if cmpI a.a b.a ≠ 0 then cmpI a.a b.a else cmpI a.i b.i
def lessP (a b : Pl) : Bool := decide (cmp3 a b < 0)
def row3 (p : Pl) : List Int := [p.k, p.a, p.i]
def compR : List Int → List Int → Int
  | x :: xs, y :: ys => if cmpI x y ≠ 0 then cmpI x y else compR xs ys
  | [], _ => 0
  | _ :: _, [] => 1
theorem sCompare (a b : List Int) (hab : a.length = b.length) (hl : a.length ≤ 1000) : Ctr Try.prog 116 [.d (slK .i64 a), .d (slK .i64 b)] [] (.d (.int .i64 (compR a b))) [] [] := by
  refine ctr_pure Try.func116 ok116 rfl cc116 cr116 Try.ntmps116 (by simp) rfl rfl ?_; intro c hP hfn; simp only [kc116, vcb, ↓evSo_some, ↓reduceIte, reduceCtorEq, seval]
  refine vcC.loop (X := Nat) (fun k => ⟨[(0, .d (slK .i64 a)), (1, .d (slK .i64 b)), (9, .d (slK .i64 a)), (10, .d (.int .i64 a.length)), (11, .d (.int .i64 k))], [], []⟩)
    (fun k => k ≤ a.length ∧ compR a b = compR (a.drop k) (b.drop k)) (fun k => a.length - k) 0 ⟨Nat.zero_le _, rfl⟩ (Wk.of [] hfn rfl (by (simp only [enb, vcb, ↓evSo_some, ↓reduceIte, reduceCtorEq, seval]) <;> (first | exact wS (by omega) | (rw [List.length_append]; exact wS (by omega)) | assumption)) (by simp only [enb, vcb, ↓evSo_some, ↓reduceIte, reduceCtorEq, seval])) ?_
  rintro k ⟨hk, he⟩
  simp only [vcb, ↓evSo_some, ↓reduceIte, reduceCtorEq, seval]
  refine ⟨fun h1 => ?_, fun h1 => ?_⟩
  · have hlt : k < a.length := by have := of_decide_eq_true h1; omega
    obtain ⟨x, hd, hg, -, -⟩ := drop_at hlt
    obtain ⟨y, hd', hg', -, -⟩ := drop_at (l := b) (k := k) (by omega)
    have hb : decide ((k : Int) ≥ (b.length : Int)) = false := by rw [decide_eq_false_iff_not]; omega
    simp only [hg, hg', hb, vcb, ↓evSo_some, ↓reduceIte, reduceCtorEq, seval]
    rw [hd, hd', compR] at he
    repeat' first
        | (first
            | refine TR.p hP (by first | exact sCmpI x y) (by repeat' first | exact trivial | (intro _; assumption) | apply And.intro) ?_
            | refine TR.gp hP rfl (fun _ => by first | exact sCmpI x y) (fun _ => by repeat' first | exact trivial | (intro _; assumption) | apply And.intro) ?_
            | refine TR.pv hP rfl (by first | exact sCmpI x y) trivial (by repeat' first | exact trivial | (intro _; assumption) | apply And.intro) ?_
           try simp only [hg, hg', hb, vcb, ↓evSo_some, ↓reduceIte, reduceCtorEq, seval])
        | refine And.intro (fun h => ?_) (fun h => ?_)
        | refine And.intro (by first | omega | (simp only [maxLen, decide_eq_true_eq, decide_eq_false_iff_not] at *; omega)) ?_
        | (refine TR.aslO rfl rfl rfl rfl trivial (Nat.le_of_ble_eq_true rfl) ?_
           try simp only [hg, hg', hb, vcb, ↓evSo_some, ↓reduceIte, reduceCtorEq, seval])
        | refine And.intro trivial ?_
        | refine And.intro rfl ?_
        | fail
    · have h' : cmpI x y ≠ 0 := by simpa using h
      exact RetK.pure (by simp only [rs116, rsb, vcb, ↓evSo_some, ↓reduceIte, reduceCtorEq, seval]) (by (simp only [rs116, rsb, vcb, ↓evSo_some, ↓reduceIte, reduceCtorEq, seval, enb, vcb, ↓evSo_some, ↓reduceIte, reduceCtorEq, seval]) <;> (first | rw [he, if_pos h']))
    · have h' : ¬ cmpI x y ≠ 0 := by simpa using h
      rw [if_neg h'] at he
      exact lopK.on (k + 1) ⟨hlt, he⟩ (by omega) (Wk.of [] hfn rfl (by (simp only [enb, vcb, ↓evSo_some, ↓reduceIte, reduceCtorEq, seval]) <;> (first | exact wS (by omega) | (rw [List.length_append]; exact wS (by omega)) | assumption)) (by simp only [enb, vcb, ↓evSo_some, ↓reduceIte, reduceCtorEq, seval]))
  · have hkl : k = a.length := by have := of_decide_eq_false h1; omega
    have e : compR a b = 0 := by rw [he, hkl]; simp [compR]
    have hb : decide (((a.length : Nat) : Int) < (b.length : Int)) = false := by rw [decide_eq_false_iff_not]; omega
    simp only [hb, vcb, ↓evSo_some, ↓reduceIte, reduceCtorEq, seval]
    repeat' first
        | refine And.intro (fun h => ?_) (fun h => ?_)
        | refine And.intro (by first | omega | (simp only [maxLen, decide_eq_true_eq, decide_eq_false_iff_not] at *; omega)) ?_
        | (refine TR.aslO rfl rfl rfl rfl trivial (Nat.le_of_ble_eq_true rfl) ?_
           try simp only [hb, vcb, ↓evSo_some, ↓reduceIte, reduceCtorEq, seval])
        | refine And.intro trivial ?_
        | refine And.intro rfl ?_
        | fail
    all_goals exact RetK.pure (by simp only [rs116, rsb, vcb, ↓evSo_some, ↓reduceIte, reduceCtorEq, seval]) (by (simp only [rs116, rsb, vcb, ↓evSo_some, ↓reduceIte, reduceCtorEq, seval, enb, vcb, ↓evSo_some, ↓reduceIte, reduceCtorEq, seval]) <;> (first | rw [e]))
theorem sCompare' {n m : Nat} {full full' : Bool} {ds ds' : List D} {a b : List Int} (h : LitI .i64 ds a) (h' : LitI .i64 ds' b) (hn : n = a.length) (hm : m = b.length) (hab : a.length = b.length) (hl : a.length ≤ 1000) :
    Ctr Try.prog 116 [.d (.sl full 1 n (litRow 1 ds)), .d (.sl full' 1 m (litRow 1 ds'))] [] (.d (.int .i64 (compR a b))) [] [] :=
  (sCompare a b hab hl).arg ⟨h.vle hn, h'.vle hm, trivial⟩
theorem compR3 (p q : Pl) : compR (row3 p) (row3 q) = cmp3 p q := by
  simp only [row3, compR, cmp3]
  by_cases h1 : cmpI p.k q.k = 0
  · by_cases h2 : cmpI p.a q.a = 0
    · by_cases h3 : cmpI p.i q.i = 0
      · simp [h1, h2, h3]
      · simp [h1, h2, h3]
    · simp [h1, h2]
  · simp [h1]
theorem sLen (l : List Pl) : Ctr Try.prog 31 [.osl 2] [(2, rowP l)] (.d (.int .i64 l.length)) [(2, rowP l)] [] := by
  refine ctr_own Try.func31 ok31 rfl cc31 cr31 Try.ntmps31 (by simp) rfl ?_
  intro c hP hfn
  simp only [kc31, namesL, V.names, ownNames, rowP, vcb, ↓evSo_some, ↓reduceIte, reduceCtorEq, seval]
  refine RetK.mk _ (Wk.refl _ _) (by simp only [rs31, rsb, vcb, ↓evSo_some, ↓reduceIte, reduceCtorEq, seval]) (by simp only [rs31, rsb, vcb, ↓evSo_some, ↓reduceIte, reduceCtorEq, seval, enb, vcb, ↓evSo_some, ↓reduceIte, reduceCtorEq, seval]) (by simp only [enb, vcb, ↓evSo_some, ↓reduceIte, reduceCtorEq, seval])
set_option maxHeartbeats 1000000 in
theorem sLess (l : List Pl) (i j : Nat) (hi : i < l.length) (hj : j < l.length) :
    Ctr Try.prog 112 [.osl 2, .d (.int .i64 i), .d (.int .i64 j)] [(2, rowP l)] (.d (.bool (lessP (l.getD i default) (l.getD j default)))) [(2, rowP l)] [] := by
  refine ctr_own Try.func112 ok112 rfl cc112 cr112 Try.ntmps112 (by simp) rfl ?_
  intro c hP hfn
  have hw : ∀ p q : Pl, Ctr Try.prog 116 [.d (.sl true 1 3 (litRow 1 [.int .i64 p.k, .int .i64 p.a, .int .i64 p.i])), .d (.sl true 1 3 (litRow 1 [.int .i64 q.k, .int .i64 q.a, .int .i64 q.i]))] [] (.d (.int .i64 (cmp3 p q))) [] [] := fun p q => by
    have := sCompare' (full := true) (full' := true) (n := 3) (m := 3) (ds := [.int .i64 p.k, .int .i64 p.a, .int .i64 p.i]) (ds' := [.int .i64 q.k, .int .i64 q.a, .int .i64 q.i]) (a := row3 p) (b := row3 q) (by repeat constructor) (by repeat constructor) rfl rfl rfl (by simp [row3])
    rwa [compR3] at this
  have hI := hw (l.getD i default) (l.getD j default)
  have h1 : (0 : Int) ≤ (i : Int) ∧ (i : Int) < l.length := by omega
  have h2 : (0 : Int) ≤ (j : Int) ∧ (j : Int) < l.length := by omega
  simp only [kc112, namesL, V.names, ownNames, rowP, vcb, ↓evSo_some, ↓reduceIte, reduceCtorEq, seval]
  repeat' first
      | (first
          | refine TR.p hP (by first | exact hI) (by repeat' first | exact trivial | (intro _; assumption) | apply And.intro) ?_
          | refine TR.gp hP rfl (fun _ => by first | exact hI) (fun _ => by repeat' first | exact trivial | (intro _; assumption) | apply And.intro) ?_
          | refine TR.pv hP rfl (by first | exact hI) trivial (by repeat' first | exact trivial | (intro _; assumption) | apply And.intro) ?_
         try simp only [vcb, ↓evSo_some, ↓reduceIte, reduceCtorEq, seval])
      | refine And.intro (fun h => ?_) (fun h => ?_)
      | refine And.intro (by first | omega | (simp only [maxLen, decide_eq_true_eq, decide_eq_false_iff_not] at *; omega)) ?_
      | (refine TR.aslO rfl rfl rfl rfl trivial (Nat.le_of_ble_eq_true rfl) ?_
         try simp only [vcb, ↓evSo_some, ↓reduceIte, reduceCtorEq, seval])
      | refine And.intro trivial ?_
      | refine And.intro rfl ?_
      | fail
  refine RetK.mk _ (Wk.refl _ _) (by simp only [rs112, rsb, vcb, ↓evSo_some, ↓reduceIte, reduceCtorEq, seval]) (by simp only [rs112, rsb, vcb, ↓evSo_some, ↓reduceIte, reduceCtorEq, seval, enb, vcb, ↓evSo_some, ↓reduceIte, reduceCtorEq, seval, lessP]) (by simp only [enb, vcb, ↓evSo_some, ↓reduceIte, reduceCtorEq, seval])
theorem sSwap (l : List Pl) (i j : Nat) (hi : i < l.length) (hj : j < l.length) :
    Ctr Try.prog 115 [.osl 2, .d (.int .i64 i), .d (.int .i64 j)] [(2, rowP l)] (.tup []) [(2, rowP (swp default l i j))] [] := by
  refine ctr_own Try.func115 ok115 rfl cc115 cr115 Try.ntmps115 (by simp) rfl ?_
  intro c hP hfn
  have h1 : (0 : Int) ≤ (i : Int) ∧ (i : Int) < l.length := by omega
  have h2 : (0 : Int) ≤ (j : Int) ∧ (j : Int) < l.length := by omega
  simp only [kc115, namesL, V.names, ownNames, rowP, vcb, ↓evSo_some, ↓reduceIte, reduceCtorEq, seval]
  repeat' first
      | refine And.intro (fun h => ?_) (fun h => ?_)
      | refine And.intro (by first | omega | (simp only [maxLen, decide_eq_true_eq, decide_eq_false_iff_not] at *; omega)) ?_
      | (refine TR.aslO rfl rfl rfl rfl trivial (Nat.le_of_ble_eq_true rfl) ?_
         try simp only [vcb, ↓evSo_some, ↓reduceIte, reduceCtorEq, seval])
      | refine And.intro trivial ?_
      | refine And.intro rfl ?_
      | fail
  refine RetK.mk' _ (Wk.refl _ _) (by simp only [rs115, rsb, vcb, ↓evSo_some, ↓reduceIte, reduceCtorEq, seval]) (by simp only [rs115, rsb, vcb, ↓evSo_some, ↓reduceIte, reduceCtorEq, seval, enb, vcb, ↓evSo_some, ↓reduceIte, reduceCtorEq, seval]) ?_
  simp only [enb, vcb, ↓evSo_some, ↓reduceIte, reduceCtorEq, seval]
  refine OLe.row (swp_len _ _ _ _).symm fun m hm => ?_
  rw [swp_get default hi hj m]
  by_cases e1 : m = j
  · subst e1; simp [putD]; try (split <;> simp_all [putD])
  · rw [if_neg e1, if_neg e1]
    by_cases e2 : m = i
    · subst e2; simp [putD]
    · rw [if_neg e2, if_neg e2]
theorem sPush (l : List Pl) (x : Pl) (hl : l.length ≤ 1000000) :
    Ctr Try.prog 114 [.own 1 0, .ifc 61 (vP x)] [(1, .fix [.osl 2]), (2, rowP l)] (.tup []) [(1, .fix [.osl 3]), (3, rowP (l ++ [x]))] [3] := by
  refine ctr_own Try.func114 ok114 rfl cc114 cr114 Try.ntmps114 (by simp) rfl ?_
  intro c hP hfn
  have hb : (l.length + 1) * 24 ≤ 140737488355328 := by omega
  have hm : l.length + 1 ≤ maxLen := by simp only [maxLen]; omega
  simp only [kc114, namesL, V.names, ownNames, rowP, vP, hb, hm, vcb, ↓evSo_some, ↓reduceIte, reduceCtorEq, seval]
  repeat' first
      | refine And.intro (fun h => ?_) (fun h => ?_)
      | refine And.intro (by first | omega | (simp only [maxLen, decide_eq_true_eq, decide_eq_false_iff_not] at *; omega)) ?_
      | (refine TR.aslO rfl rfl rfl rfl trivial (Nat.le_of_ble_eq_true rfl) ?_
         try simp only [vcb, ↓evSo_some, ↓reduceIte, reduceCtorEq, seval])
      | refine And.intro trivial ?_
      | refine And.intro rfl ?_
      | fail
  refine RetK.mk' _ (Wk.sw 11 3 _ hfn (by simp [namesL, V.names, ownNames, vP, rowP]) (by simp [namesL, V.names, ownNames, vP, rowP])) (by simp only [rs114, rsb, vcb, ↓evSo_some, ↓reduceIte, reduceCtorEq, seval]) (by simp only [rs114, rsb, vcb, ↓evSo_some, ↓reduceIte, reduceCtorEq, seval, enb, vcb, ↓evSo_some, ↓reduceIte, reduceCtorEq, seval]) ?_
  simp only [enb, vcb, ↓evSo_some, ↓reduceIte, reduceCtorEq, seval]
  refine (OLe.app1 (fun p : Pl => [.int .i64 p.k, .int .i64 p.a, .int .i64 p.i]) (fun i hi => by simp [hi]) (by simp [litRow]))
theorem sPop (l : List Pl) (h0 : 0 < l.length) (hl : l.length ≤ 1000000) :
    Ctr Try.prog 113 [.own 1 0] [(1, .fix [.osl 2]), (2, rowP l)] (.ifc 61 (vP (l.getD (l.length - 1) default))) [(1, .fix [.osl 3]), (3, rowP (l.take (l.length - 1)))] [3] := by
  refine ctr_own Try.func113 ok113 rfl cc113 cr113 Try.ntmps113 (by simp) rfl ?_
  intro c hP hfn
  have e1 : IntKind.i64.wrap ((l.length : Int) - 1) = ((l.length - 1 : Nat) : Int) := by rw [wI (by omega)]; omega
  have h1 : (0 : Int) ≤ ((l.length - 1 : Nat) : Int) ∧ ((l.length - 1 : Nat) : Int) < l.length := by omega
  have h2 : ((l.length - 1 : Nat) : Int) ≤ (l.length : Int) := by omega
  simp only [kc113, namesL, V.names, ownNames, rowP, vP, e1, vcb, ↓evSo_some, ↓reduceIte, reduceCtorEq, seval]
  repeat' first
      | refine And.intro (fun h => ?_) (fun h => ?_)
      | refine And.intro (by first | omega | (simp only [maxLen, decide_eq_true_eq, decide_eq_false_iff_not] at *; omega)) ?_
      | (refine TR.aslO rfl rfl rfl rfl trivial (Nat.le_of_ble_eq_true rfl) ?_
         try simp only [e1, vcb, ↓evSo_some, ↓reduceIte, reduceCtorEq, seval])
      | refine And.intro trivial ?_
      | refine And.intro rfl ?_
      | fail
  refine RetK.mk _ (Wk.shr 2 3 (l.length - 1) rfl (by omega) (by simp [namesL, V.names, ownNames, vP, rowP])) (by simp only [rs113, rsb, vcb, ↓evSo_some, ↓reduceIte, reduceCtorEq, seval]) (by simp only [rs113, rsb, vcb, ↓evSo_some, ↓reduceIte, reduceCtorEq, seval, enb, vcb, ↓evSo_some, ↓reduceIte, reduceCtorEq, seval]) ?_
  simp only [enb, vcb, ↓evSo_some, ↓reduceIte, reduceCtorEq, seval]
  refine OLe.row (by simp) fun i hi => ?_
  have hi2 : i < l.length := by omega
  simp [List.getD_eq_getElem?_getD, List.getElem?_take, hi, hi2]
theorem mLess : mth Try.prog 57 "Less" = some (112, false) := by kernel_rfl
theorem mSwap : mth Try.prog 57 "Swap" = some (115, false) := by kernel_rfl
theorem mLen : mth Try.prog 57 "Len" = some (31, false) := by kernel_rfl
theorem mPush : mth Try.prog 57 "Push" = some (114, true) := by kernel_rfl
theorem mPop : mth Try.prog 57 "Pop" = some (113, true) := by kernel_rfl
theorem uPl : Try.prog.underlying 57 = some (.pointer 59) := by kernel_rfl
theorem zPl : szB Try.prog 59 = some 1 := by kernel_rfl
theorem aPl : aggB Try.prog 59 = some false := by kernel_rfl
def vH : V := .ifc 57 (.own 1 0)
set_option maxHeartbeats 1000000 in
theorem sUp (l : List Pl) (j : Nat) (hj : j < l.length) (hl : l.length ≤ 1000000) :
    Ctr Try.prog 55 [vH, .d (.int .i64 j)] [(1, .fix [.osl 2]), (2, rowP l)] (.tup []) [(1, .fix [.osl 2]), (2, rowP (upL default lessP j l))] [] := by
  refine ctr_own Try.func55 ok55 rfl cc55 cr55 Try.ntmps55 (by simp [vH]) rfl ?_
  intro c hP hfn
  simp only [kc55, namesL, V.names, ownNames, vH, vcb, ↓evSo_some, ↓reduceIte, reduceCtorEq, seval]
  refine vcC.loop (X := Nat × List Pl) (fun x => ⟨[(0, vH), (1, .d (.int .i64 x.1))], [(1, .fix [.osl 2]), (2, rowP x.2)], [1, 2]⟩)
    (fun x => x.1 < x.2.length ∧ x.2.length = l.length ∧ upL default lessP j l = upL default lessP x.1 x.2) (fun x => x.1) (j, l) ⟨hj, rfl, rfl⟩ (Wk.of _ hfn rfl (by simp only [vH, enb, vcb, ↓evSo_some, ↓reduceIte, reduceCtorEq, seval]) (by simp only [enb, vcb, ↓evSo_some, ↓reduceIte, reduceCtorEq, seval])) ?_
  rintro ⟨i, r⟩ ⟨hi, hr, he⟩
  simp only at hi hr he
  have e1 : IntKind.i64.wrap ((i : Int) - 1) = (i : Int) - 1 := wI (by omega)
  have e2 : IntKind.i64.wrap (((i : Int) - 1).tdiv 2) = (((i - 1) / 2 : Nat) : Int) := by
    cases i with
    | zero => decide
    | succ n =>
      have : ((n + 1 : Nat) : Int) - 1 = (n : Int) := by omega
      rw [this, show (2 : Int) = ((2 : Nat) : Int) from rfl, tdiv_nat, Nat.add_sub_cancel, wI (by omega)]
  have hl2 : ¬ ((2 : Int) = 0) := by decide
  by_cases h0 : i = 0
  · have hu : upL default lessP i r = r := by rw [upL, dif_pos h0]
    have h1 : ((((i - 1) / 2 : Nat) : Int) == (i : Int)) = true := by rw [beq_iff_eq]; omega
    rw [hu] at he
    simp only [vH, e1, e2, h1, hl2, vcb, ↓evSo_some, ↓reduceIte, reduceCtorEq, seval]
    refine TR.gkeep (gc := false) [] (.d (.bool false)) rfl (fun h => by cases h) ?_
    simp only [vcb, ↓evSo_some, ↓reduceIte, reduceCtorEq, seval]
    refine RetK.mk' _ (Wk.refl _ _) (by simp only [rs55, rsb, vcb, ↓evSo_some, ↓reduceIte, reduceCtorEq, seval]) (by simp only [rs55, rsb, vcb, ↓evSo_some, ↓reduceIte, reduceCtorEq, seval, enb, vcb, ↓evSo_some, ↓reduceIte, reduceCtorEq, seval]) ?_
    simp only [he, enb, vcb, ↓evSo_some, ↓reduceIte, reduceCtorEq, seval]
  · have h1 : ((((i - 1) / 2 : Nat) : Int) == (i : Int)) = false := by
      rw [beq_eq_false_iff_ne]; omega
    simp only [vH, e1, e2, h1, hl2, vcb, ↓evSo_some, ↓reduceIte, reduceCtorEq, seval]
    refine TR.gkeep (gc := true) [1, 2] (.d (.bool (lessP (r.getD i default) (r.getD ((i - 1) / 2) default)))) rfl (fun _ => valid_ivk1 hP rfl mLess uPl zPl aPl (fun _ => rfl) rfl (by decide) (sLess r i ((i - 1) / 2) hi (by omega)) (fun _ => rfl) ⟨fun _ => rfl, fun _ => rfl, trivial⟩ rfl) ?_
    simp only [vcb, ↓evSo_some, ↓reduceIte, reduceCtorEq, seval]
    refine ⟨fun h => ?_, fun h => ?_⟩
    · have hu : upL default lessP i r = r := by rw [upL, dif_neg h0, if_neg (by simpa using h)]
      rw [hu] at he
      refine RetK.mk' _ (Wk.refl _ _) (by simp only [rs55, rsb, vcb, ↓evSo_some, ↓reduceIte, reduceCtorEq, seval]) (by simp only [rs55, rsb, vcb, ↓evSo_some, ↓reduceIte, reduceCtorEq, seval, enb, vcb, ↓evSo_some, ↓reduceIte, reduceCtorEq, seval]) ?_
      simp only [he, enb, vcb, ↓evSo_some, ↓reduceIte, reduceCtorEq, seval]
    · have hu : upL default lessP i r = upL default lessP ((i - 1) / 2) (swp default r ((i - 1) / 2) i) := by
        rw [upL, dif_neg h0, if_pos (by simpa using h)]
      rw [hu] at he
      refine TR.ivl hP [(2, rowP r)] [(2, rowP (swp default r ((i - 1) / 2) i))] _ [] rfl mSwap uPl zPl aPl (fun _ => rfl) rfl (by decide) (sSwap r ((i - 1) / 2) i (by omega) hi) trivial (by repeat' first | exact trivial | (intro _; assumption) | apply And.intro) (hin1 rfl) (by simp [keysO]) (by simp) ?_
      simp only [vcb, ↓evSo_some, ↓reduceIte, reduceCtorEq, seval]
      exact lopK.on ((i - 1) / 2, swp default r ((i - 1) / 2) i) ⟨by rw [swp_len]; omega, by rw [swp_len]; exact hr, he⟩ (by simp only; omega) (Wk.of _ hfn rfl (by simp only [vH, enb, vcb, ↓evSo_some, ↓reduceIte, reduceCtorEq, seval]) (by simp only [enb, vcb, ↓evSo_some, ↓reduceIte, reduceCtorEq, seval]))
set_option maxHeartbeats 2000000 in
theorem sHDn (l : List Pl) (i0 n : Nat) (hn : n ≤ l.length) (hl : l.length ≤ 1000000) (hi0 : i0 < l.length) :
    Ctr Try.prog 56 [vH, .d (.int .i64 i0), .d (.int .i64 n)] [(1, .fix [.osl 2]), (2, rowP l)] .un [(1, .fix [.osl 2]), (2, rowP (downL default lessP i0 n l))] [] := by
  refine ctr_own Try.func56 ok56 rfl cc56 cr56 Try.ntmps56 (by simp [vH]) rfl ?_
  intro c hP hfn
  simp only [kc56, namesL, V.names, ownNames, vH, vcb, ↓evSo_some, ↓reduceIte, reduceCtorEq, seval]
  refine vcC.loop (X := Nat × List Pl) (fun x => ⟨[(0, vH), (1, .d (.int .i64 i0)), (2, .d (.int .i64 n)), (7, .d (.int .i64 x.1))], [(1, .fix [.osl 2]), (2, rowP x.2)], [1, 2]⟩)
    (fun x => x.1 < x.2.length ∧ x.2.length = l.length ∧ downL default lessP i0 n l = downL default lessP x.1 n x.2) (fun x => l.length - x.1) (i0, l) ⟨hi0, rfl, rfl⟩ (Wk.of _ hfn rfl (by simp only [vH, enb, vcb, ↓evSo_some, ↓reduceIte, reduceCtorEq, seval]) (by simp only [enb, vcb, ↓evSo_some, ↓reduceIte, reduceCtorEq, seval])) ?_
  rintro ⟨i, r⟩ ⟨hi, hr, he⟩
  simp only at hi hr he
  have e1 : IntKind.i64.wrap (2 * (i : Int)) = 2 * (i : Int) := wI (by omega)
  have e2 : IntKind.i64.wrap (2 * (i : Int) + 1) = ((2 * i + 1 : Nat) : Int) := by rw [wI (by omega)]; omega
  have e3 : IntKind.i64.wrap (((2 * i + 1 : Nat) : Int) + 1) = ((2 * i + 2 : Nat) : Int) := by rw [wI (by omega)]; omega
  have hB : decide (((2 * i + 1 : Nat) : Int) < 0) = false := by rw [decide_eq_false_iff_not]; omega
  by_cases hlt : 2 * i + 1 < n
  · have hA : decide (((2 * i + 1 : Nat) : Int) ≥ (n : Int)) = false := by rw [decide_eq_false_iff_not]; omega
    by_cases h2 : 2 * i + 2 < n
    · have hC : decide (((2 * i + 2 : Nat) : Int) < (n : Int)) = true := by rw [decide_eq_true_eq]; omega
      simp only [vH, e1, e2, e3, hA, hB, hC, vcb, ↓evSo_some, ↓reduceIte, reduceCtorEq, seval]
      refine TR.gkeep (gc := true) [1, 2] (.d (.bool (lessP (r.getD (2 * i + 2) default) (r.getD (2 * i + 1) default)))) rfl (fun _ => valid_ivk1 hP rfl mLess uPl zPl aPl (fun _ => rfl) rfl (by decide) (sLess r (2 * i + 2) (2 * i + 1) (by omega) (by omega)) (fun _ => rfl) ⟨fun _ => rfl, fun _ => rfl, trivial⟩ rfl) ?_
      simp only [vcb, ↓evSo_some, ↓reduceIte, reduceCtorEq, seval]
      refine ⟨fun h => ?_, fun h => ?_⟩
      · have hk : kidL default lessP i n r = 2 * i + 2 := by rw [kidL, if_pos ⟨h2, h⟩]
        refine TR.keep [1, 2] (.d (.bool (lessP (r.getD (2 * i + 2) default) (r.getD i default)))) (valid_ivk1 hP rfl mLess uPl zPl aPl (fun _ => rfl) rfl (by decide) (sLess r (2 * i + 2) i (by omega) (by omega)) trivial (by repeat' first | exact trivial | (intro _; assumption) | apply And.intro) rfl) ?_
        simp only [vcb, ↓evSo_some, ↓reduceIte, reduceCtorEq, seval]
        refine ⟨fun h => ?_, fun h => ?_⟩
        · have hu : downL default lessP i n r = r := by rw [downL, dif_pos hlt, hk, if_neg (by simpa using h)]
          rw [hu] at he
          refine RetK.mk _ (Wk.refl _ _) (by simp only [rs56, rsb, vcb, ↓evSo_some, ↓reduceIte, reduceCtorEq, seval]) (VLe.un _) ?_
          simp only [he, enb, vcb, ↓evSo_some, ↓reduceIte, reduceCtorEq, seval]
        · have hu : downL default lessP i n r = downL default lessP (2 * i + 2) n (swp default r i (2 * i + 2)) := by
            rw [downL, dif_pos hlt, hk, if_pos (by simpa using h)]
          rw [hu] at he
          refine TR.ivl hP [(2, rowP r)] [(2, rowP (swp default r i (2 * i + 2)))] _ [] rfl mSwap uPl zPl aPl (fun _ => rfl) rfl (by decide) (sSwap r i (2 * i + 2) (by omega) (by omega)) trivial (by repeat' first | exact trivial | (intro _; assumption) | apply And.intro) (hin1 rfl) (by simp [keysO]) (by simp) ?_
          simp only [vcb, ↓evSo_some, ↓reduceIte, reduceCtorEq, seval]
          exact lopK.on (2 * i + 2, swp default r i (2 * i + 2)) ⟨by rw [swp_len]; omega, by rw [swp_len]; exact hr, he⟩ (by simp only; omega) (Wk.of _ hfn rfl (by simp only [vH, enb, vcb, ↓evSo_some, ↓reduceIte, reduceCtorEq, seval]) (by simp only [enb, vcb, ↓evSo_some, ↓reduceIte, reduceCtorEq, seval]))
      · have hk : kidL default lessP i n r = 2 * i + 1 := by rw [kidL, if_neg (fun g => by rw [h] at g; exact absurd g.2 (by simp))]
        refine TR.keep [1, 2] (.d (.bool (lessP (r.getD (2 * i + 1) default) (r.getD i default)))) (valid_ivk1 hP rfl mLess uPl zPl aPl (fun _ => rfl) rfl (by decide) (sLess r (2 * i + 1) i (by omega) (by omega)) trivial (by repeat' first | exact trivial | (intro _; assumption) | apply And.intro) rfl) ?_
        simp only [vcb, ↓evSo_some, ↓reduceIte, reduceCtorEq, seval]
        refine ⟨fun h => ?_, fun h => ?_⟩
        · have hu : downL default lessP i n r = r := by rw [downL, dif_pos hlt, hk, if_neg (by simpa using h)]
          rw [hu] at he
          refine RetK.mk _ (Wk.refl _ _) (by simp only [rs56, rsb, vcb, ↓evSo_some, ↓reduceIte, reduceCtorEq, seval]) (VLe.un _) ?_
          simp only [he, enb, vcb, ↓evSo_some, ↓reduceIte, reduceCtorEq, seval]
        · have hu : downL default lessP i n r = downL default lessP (2 * i + 1) n (swp default r i (2 * i + 1)) := by
            rw [downL, dif_pos hlt, hk, if_pos (by simpa using h)]
          rw [hu] at he
          refine TR.ivl hP [(2, rowP r)] [(2, rowP (swp default r i (2 * i + 1)))] _ [] rfl mSwap uPl zPl aPl (fun _ => rfl) rfl (by decide) (sSwap r i (2 * i + 1) (by omega) (by omega)) trivial (by repeat' first | exact trivial | (intro _; assumption) | apply And.intro) (hin1 rfl) (by simp [keysO]) (by simp) ?_
          simp only [vcb, ↓evSo_some, ↓reduceIte, reduceCtorEq, seval]
          exact lopK.on (2 * i + 1, swp default r i (2 * i + 1)) ⟨by rw [swp_len]; omega, by rw [swp_len]; exact hr, he⟩ (by simp only; omega) (Wk.of _ hfn rfl (by simp only [vH, enb, vcb, ↓evSo_some, ↓reduceIte, reduceCtorEq, seval]) (by simp only [enb, vcb, ↓evSo_some, ↓reduceIte, reduceCtorEq, seval]))
    · have hC : decide (((2 * i + 2 : Nat) : Int) < (n : Int)) = false := by rw [decide_eq_false_iff_not]; omega
      have hk : kidL default lessP i n r = 2 * i + 1 := by rw [kidL, if_neg (fun g => h2 g.1)]
      simp only [vH, e1, e2, e3, hA, hB, hC, vcb, ↓evSo_some, ↓reduceIte, reduceCtorEq, seval]
      refine TR.gkeep (gc := false) [] (.d (.bool false)) rfl (fun h => by cases h) ?_
      simp only [vcb, ↓evSo_some, ↓reduceIte, reduceCtorEq, seval]
      refine TR.keep [1, 2] (.d (.bool (lessP (r.getD (2 * i + 1) default) (r.getD i default)))) (valid_ivk1 hP rfl mLess uPl zPl aPl (fun _ => rfl) rfl (by decide) (sLess r (2 * i + 1) i (by omega) (by omega)) trivial (by repeat' first | exact trivial | (intro _; assumption) | apply And.intro) rfl) ?_
      simp only [vcb, ↓evSo_some, ↓reduceIte, reduceCtorEq, seval]
      refine ⟨fun h => ?_, fun h => ?_⟩
      · have hu : downL default lessP i n r = r := by rw [downL, dif_pos hlt, hk, if_neg (by simpa using h)]
        rw [hu] at he
        refine RetK.mk _ (Wk.refl _ _) (by simp only [rs56, rsb, vcb, ↓evSo_some, ↓reduceIte, reduceCtorEq, seval]) (VLe.un _) ?_
        simp only [he, enb, vcb, ↓evSo_some, ↓reduceIte, reduceCtorEq, seval]
      · have hu : downL default lessP i n r = downL default lessP (2 * i + 1) n (swp default r i (2 * i + 1)) := by
          rw [downL, dif_pos hlt, hk, if_pos (by simpa using h)]
        rw [hu] at he
        refine TR.ivl hP [(2, rowP r)] [(2, rowP (swp default r i (2 * i + 1)))] _ [] rfl mSwap uPl zPl aPl (fun _ => rfl) rfl (by decide) (sSwap r i (2 * i + 1) (by omega) (by omega)) trivial (by repeat' first | exact trivial | (intro _; assumption) | apply And.intro) (hin1 rfl) (by simp [keysO]) (by simp) ?_
        simp only [vcb, ↓evSo_some, ↓reduceIte, reduceCtorEq, seval]
        exact lopK.on (2 * i + 1, swp default r i (2 * i + 1)) ⟨by rw [swp_len]; omega, by rw [swp_len]; exact hr, he⟩ (by simp only; omega) (Wk.of _ hfn rfl (by simp only [vH, enb, vcb, ↓evSo_some, ↓reduceIte, reduceCtorEq, seval]) (by simp only [enb, vcb, ↓evSo_some, ↓reduceIte, reduceCtorEq, seval]))
  · have hA : decide (((2 * i + 1 : Nat) : Int) ≥ (n : Int)) = true := by rw [decide_eq_true_eq]; omega
    have hu : downL default lessP i n r = r := by rw [downL, dif_neg hlt]
    rw [hu] at he
    simp only [vH, e1, e2, e3, hA, hB, vcb, ↓evSo_some, ↓reduceIte, reduceCtorEq, seval]
    refine RetK.mk _ (Wk.refl _ _) (by simp only [rs56, rsb, vcb, ↓evSo_some, ↓reduceIte, reduceCtorEq, seval]) (VLe.un _) ?_
    simp only [he, enb, vcb, ↓evSo_some, ↓reduceIte, reduceCtorEq, seval]
theorem sLen3 (l : List Pl) : Ctr Try.prog 31 [.osl 3] [(3, rowP l)] (.d (.int .i64 l.length)) [(3, rowP l)] [] := by
  have := (sLen l).sw 2 3
  simpa only [rowP, vcb, ↓evSo_some, ↓reduceIte, reduceCtorEq, seval] using this
theorem sUp3 (l : List Pl) (j : Nat) (hj : j < l.length) (hl : l.length ≤ 1000000) :
    Ctr Try.prog 55 [vH, .d (.int .i64 j)] [(1, .fix [.osl 3]), (3, rowP l)] (.tup []) [(1, .fix [.osl 3]), (3, rowP (upL default lessP j l))] [] := by
  have := (sUp l j hj hl).sw 2 3
  simpa only [rowP, vH, vcb, ↓evSo_some, ↓reduceIte, reduceCtorEq, seval] using this
set_option maxHeartbeats 1000000 in
theorem sHPush (l : List Pl) (x : Pl) (hl : l.length ≤ 100000) :
    Ctr Try.prog 30 [vH, .ifc 61 (vP x)] [(1, .fix [.osl 2]), (2, rowP l)] (.tup []) [(1, .fix [.osl 3]), (3, rowP (pushL default lessP l x))] [3] := by
  refine ctr_own Try.func30 ok30 rfl cc30 cr30 Try.ntmps30 (by simp [vH, vP]) rfl ?_
  intro c hP hfn
  have e1 : IntKind.i64.wrap (((l ++ [x]).length : Int) - 1) = (l.length : Int) := by rw [wI (by simp; omega)]; simp
  simp only [kc30, namesL, V.names, ownNames, vH, vP, vcb, ↓evSo_some, ↓reduceIte, reduceCtorEq, seval]
  refine TR.iv hP [(1, .fix [.osl 2]), (2, rowP l)] [(1, .fix [.osl 3]), (3, rowP (l ++ [x]))] _ [3] rfl mPush uPl (sPush l x (by omega)) trivial (by repeat' first | exact trivial | (intro _; assumption) | apply And.intro) (hin2 rfl rfl) (by simp [keysO]) (by simp [rowP, ownNames]) ?_
  simp only [vcb, ↓evSo_some, ↓reduceIte, reduceCtorEq, seval]
  refine TR.keep [1, 3] (.d (.int .i64 (l ++ [x]).length)) (valid_ivk1 hP rfl mLen uPl zPl aPl (fun _ => rfl) rfl (by decide) (sLen3 (l ++ [x])) trivial (by repeat' first | exact trivial | (intro _; assumption) | apply And.intro) rfl) ?_
  simp only [e1, vcb, ↓evSo_some, ↓reduceIte, reduceCtorEq, seval]
  refine TR.call [(1, .fix [.osl 3]), (3, rowP (l ++ [x]))] [(1, .fix [.osl 3]), (3, rowP (upL default lessP l.length (l ++ [x])))] _ [] (by rw [hP]; exact sUp3 (l ++ [x]) l.length (by simp) (by simp; omega)) (by repeat' first | exact trivial | (intro _; assumption) | apply And.intro) (hin2 rfl rfl) (by simp [keysO]) (by simp) ?_
  simp only [vcb, ↓evSo_some, ↓reduceIte, reduceCtorEq, seval]
  refine RetK.mk' _ (Wk.refl _ _) (by simp only [rs30, rsb, vcb, ↓evSo_some, ↓reduceIte, reduceCtorEq, seval]) (by simp only [rs30, rsb, vcb, ↓evSo_some, ↓reduceIte, reduceCtorEq, seval, enb, vcb, ↓evSo_some, ↓reduceIte, reduceCtorEq, seval]) ?_
  simp only [pushL, enb, vcb, ↓evSo_some, ↓reduceIte, reduceCtorEq, seval]
set_option maxHeartbeats 1000000 in
theorem sHPop (l : List Pl) (h0 : 0 < l.length) (hl : l.length ≤ 100000) :
    Ctr Try.prog 32 [vH] [(1, .fix [.osl 2]), (2, rowP l)] (.ifc 61 (vP ((popL default lessP l).getD (l.length - 1) default))) [(1, .fix [.osl 3]), (3, rowP ((popL default lessP l).take (l.length - 1)))] [3] := by
  refine ctr_own Try.func32 ok32 rfl cc32 cr32 Try.ntmps32 (by simp [vH]) rfl ?_
  intro c hP hfn
  have e1 : IntKind.i64.wrap ((l.length : Int) - 1) = ((l.length - 1 : Nat) : Int) := by rw [wI (by omega)]; omega
  have hpl : (popL default lessP l).length = l.length := by rw [popL, downL_len, swp_len]
  have cS := sSwap l 0 (l.length - 1) h0 (by omega)
  have cD := sHDn (swp default l 0 (l.length - 1)) 0 (l.length - 1) (by rw [swp_len]; omega) (by rw [swp_len]; omega) (by rw [swp_len]; omega)
  have cP := sPop (popL default lessP l) (by omega) (by omega)
  rw [hpl] at cP
  simp only [vH] at cD
  simp only [Int.natCast_zero] at cS cD
  simp only [kc32, namesL, V.names, ownNames, vH, vP, vcb, ↓evSo_some, ↓reduceIte, reduceCtorEq, seval]
  refine TR.keep [1, 2] (.d (.int .i64 l.length)) (valid_ivk1 hP rfl mLen uPl zPl aPl (fun _ => rfl) rfl (by decide) (sLen l) trivial (by repeat' first | exact trivial | (intro _; assumption) | apply And.intro) rfl) ?_
  simp only [e1, vcb, ↓evSo_some, ↓reduceIte, reduceCtorEq, seval]
  refine TR.ivl hP [(2, rowP l)] [(2, rowP (swp default l 0 (l.length - 1)))] _ [] rfl mSwap uPl zPl aPl (fun _ => rfl) rfl (by decide) cS trivial (by repeat' first | exact trivial | (intro _; assumption) | apply And.intro) (hin1 rfl) (by simp [keysO]) (by simp) ?_
  simp only [vcb, ↓evSo_some, ↓reduceIte, reduceCtorEq, seval]
  refine TR.call [(1, .fix [.osl 2]), (2, rowP (swp default l 0 (l.length - 1)))] [(1, .fix [.osl 2]), (2, rowP (popL default lessP l))] _ [] (by rw [hP]; exact cD) (by repeat' first | exact trivial | (intro _; assumption) | apply And.intro) (hin2 rfl rfl) (by simp [keysO]) (by simp) ?_
  simp only [vcb, ↓evSo_some, ↓reduceIte, reduceCtorEq, seval]
  refine TR.iv hP [(1, .fix [.osl 2]), (2, rowP (popL default lessP l))] [(1, .fix [.osl 3]), (3, rowP ((popL default lessP l).take (l.length - 1)))] _ [3] rfl mPop uPl cP trivial (by repeat' first | exact trivial | (intro _; assumption) | apply And.intro) (hin2 rfl rfl) (by simp [keysO]) (by simp [rowP, ownNames]) ?_
  simp only [vcb, ↓evSo_some, ↓reduceIte, reduceCtorEq, seval]
  refine RetK.mk _ (Wk.refl _ _) (by simp only [rs32, rsb, vcb, ↓evSo_some, ↓reduceIte, reduceCtorEq, seval]) (by simp only [rs32, vP, rsb, vcb, ↓evSo_some, ↓reduceIte, reduceCtorEq, seval, enb, vcb, ↓evSo_some, ↓reduceIte, reduceCtorEq, seval]) ?_
  simp only [enb, vcb, ↓evSo_some, ↓reduceIte, reduceCtorEq, seval]
end Go.Proofs.Ytgpckelpmincmaa
end
section
set_option linter.unusedSimpArgs false
set_option linter.unusedVariables false
namespace Go.Proofs.Ytgpckelpmincmaa
set_option linter.unusedSimpArgs false
set_option linter.unusedVariables false
open Go.Bx
set_option maxRecDepth 10000
def plT (t : Tr) (i : Nat) : List Pl := if t.kind = 1 then [⟨t.kind, 0, i⟩] else if t.kind = 2 ∨ t.kind = 3 then [⟨t.kind, t.att, i⟩] else []
def plsT : Nat → List Tr → List Pl
  | _, [] => []
  | i, t :: r => plT t i ++ plsT (i + 1) r
def orderT (ts : List Tr) : List Int := (drainL default lessP (plsT 0 ts).length ((plsT 0 ts).foldl (pushL default lessP) [])).map (·.i)
theorem push_len (l : List Pl) (x : Pl) : (pushL default lessP l x).length = l.length + 1 := by rw [pushL, upL_len]; simp
theorem pushes_len (xs : List Pl) : ∀ l : List Pl, (xs.foldl (pushL default lessP) l).length = l.length + xs.length := by
  induction xs with
  | nil => intro l; simp
  | cons x xs ih => intro l; rw [List.foldl_cons, ih, push_len, List.length_cons]; omega
theorem pop_len (l : List Pl) : (popL default lessP l).length = l.length := by rw [popL, downL_len, swp_len]
theorem plT_len (t : Tr) (i : Nat) : (plT t i).length ≤ 1 := by unfold plT; split <;> (try split) <;> simp
theorem plsT_len : ∀ (ts : List Tr) (i : Nat), (plsT i ts).length ≤ ts.length
  | [], _ => by simp [plsT]
  | t :: r, i => by
    have h1 := plT_len t i
    have h2 := plsT_len r (i + 1)
    simp only [plsT, List.length_append, List.length_cons]; omega
def vH9 : V := .ifc 57 (.own 11 0)
theorem sHPush9 (l : List Pl) (x : Pl) (hl : l.length ≤ 100000) :
    Ctr Try.prog 30 [vH9, .ifc 61 (vP x)] [(11, .fix [.osl 900]), (900, rowP l)] (.tup []) [(11, .fix [.osl 901]), (901, rowP (pushL default lessP l x))] [901] := by
  have := (((sHPush l x hl).sw 1 11).sw 2 900).sw 3 901
  simpa only [rowP, vH, vH9, vP, vcb, ↓evSo_some, ↓reduceIte, reduceCtorEq, seval] using this
theorem sHPop9 (l : List Pl) (h0 : 0 < l.length) (hl : l.length ≤ 100000) :
    Ctr Try.prog 32 [vH9] [(11, .fix [.osl 900]), (900, rowP l)] (.ifc 61 (vP ((popL default lessP l).getD (l.length - 1) default))) [(11, .fix [.osl 901]), (901, rowP ((popL default lessP l).take (l.length - 1)))] [901] := by
  have := (((sHPop l h0 hl).sw 1 11).sw 2 900).sw 3 901
  simpa only [rowP, vH, vH9, vP, vcb, ↓evSo_some, ↓reduceIte, reduceCtorEq, seval] using this
theorem sLen9 (l : List Pl) : Ctr Try.prog 31 [.osl 900] [(900, rowP l)] (.d (.int .i64 l.length)) [(900, rowP l)] [] := by
  have := (sLen l).sw 2 900
  simpa only [rowP, vcb, ↓evSo_some, ↓reduceIte, reduceCtorEq, seval] using this
theorem drain_step {l : List Pl} {n : Nat} (_h : l.length = n + 1) : drainL default lessP (n + 1) l = (popL default lessP l).getD (l.length - 1) default :: drainL default lessP n ((popL default lessP l).take (l.length - 1)) := rfl
set_option maxHeartbeats 2000000 in
theorem sOrder (ts : List Tr) (hl : ts.length ≤ 1000) : Ctr Try.prog 15 [.d (slT ts)] [] (.d (slK .i64 (orderT ts))) [] [] := by
  refine ctr_pure Try.func15 ok15 rfl cc15 cr15 Try.ntmps15 (by simp) rfl rfl ?_; intro c hP hfn; simp only [kc15, slT, vcb, ↓evSo_some, ↓reduceIte, reduceCtorEq, seval]
  refine vcC.loop (X := Nat × List Pl) (fun x => ⟨[(3, .own 11 0), (12, .d (slT ts)), (13, .d (.int .i64 ts.length)), (14, .d (.int .i64 x.1))], [(11, .fix [.osl 900]), (900, rowP x.2)], [11, 900]⟩)
    (fun x => x.1 ≤ ts.length ∧ x.2.length ≤ x.1 ∧ (plsT 0 ts).foldl (pushL default lessP) [] = (plsT x.1 (ts.drop x.1)).foldl (pushL default lessP) x.2) (fun x => ts.length - x.1) (0, []) ⟨Nat.zero_le _, Nat.zero_le _, rfl⟩
    ((Wk.row0F 11 0 900 61 3 (fun _ => []) rfl rfl (by simp)).trans (Wk.of _ hfn rfl (by simp only [slT, enb, vcb, ↓evSo_some, ↓reduceIte, reduceCtorEq, seval]) (by simp only [rowP, enb, vcb, ↓evSo_some, ↓reduceIte, reduceCtorEq, seval]; exact OLe.row rfl (fun i hi => absurd hi (Nat.not_lt_zero i))))) ?_
  rintro ⟨k, hp⟩ ⟨hk, hh, he⟩
  simp only at hk hh he
  simp only [slT, vcb, ↓evSo_some, ↓reduceIte, reduceCtorEq, seval]
  refine ⟨fun h1 => ?_, fun h1 => ?_⟩
  · have hlt : k < ts.length := by have := of_decide_eq_true h1; omega
    obtain ⟨t, hd, hg, -, -⟩ := drop_at hlt
    rw [hd, plsT, List.foldl_append] at he
    simp only [hg, vcb, ↓evSo_some, ↓reduceIte, reduceCtorEq, seval]
    repeat' first
        | refine And.intro (fun h => ?_) (fun h => ?_)
        | refine And.intro (by first | omega | (simp only [maxLen, decide_eq_true_eq, decide_eq_false_iff_not] at *; omega)) ?_
        | (refine TR.aslO rfl rfl rfl rfl trivial (Nat.le_of_ble_eq_true rfl) ?_
           try simp only [hg, vcb, ↓evSo_some, ↓reduceIte, reduceCtorEq, seval])
        | refine And.intro trivial ?_
        | refine And.intro rfl ?_
        | fail
    · have ep : plT t k = [⟨t.kind, 0, k⟩] := by
        have h9 : t.kind = 1 := by simpa using h
        rw [plT, if_pos h9]
      rw [ep] at he
      have cc := sHPush9 hp ⟨t.kind, 0, k⟩ (by omega)
      simp only [vH9, vP] at cc
      refine TR.call [(11, .fix [.osl 900]), (900, rowP hp)] [(11, .fix [.osl 901]), (901, rowP (pushL default lessP hp ⟨t.kind, 0, k⟩))] _ [901] (by rw [hP]; exact cc) (by repeat' first | exact trivial | (intro _; assumption) | apply And.intro) (hin2 rfl rfl) (by simp [keysO]) (by simp) ?_
      simp only [vcb, ↓evSo_some, ↓reduceIte, reduceCtorEq, seval]
      exact lopK.on (k + 1, pushL default lessP hp ⟨t.kind, 0, k⟩) ⟨hlt, by simp only [push_len]; omega, he⟩ (by simp only; omega) ((Wk.sw 901 900 _ hfn (by simp) (by simp)).trans (Wk.of _ hfn rfl (by simp only [slT, enb, vcb, ↓evSo_some, ↓reduceIte, reduceCtorEq, seval]; exact wS (by omega)) (by simp only [rowP, enb, vcb, ↓evSo_some, ↓reduceIte, reduceCtorEq, seval])))
    · have ep : plT t k = [⟨t.kind, t.att, k⟩] := by
        rename_i h8 _
        have h9 : ¬ t.kind = 1 := by simpa using h8
        have h7 : t.kind = 2 := by simpa using h
        rw [plT, if_neg h9, if_pos (.inl h7)]
      rw [ep] at he
      have cc := sHPush9 hp ⟨t.kind, t.att, k⟩ (by omega)
      simp only [vH9, vP] at cc
      refine TR.call [(11, .fix [.osl 900]), (900, rowP hp)] [(11, .fix [.osl 901]), (901, rowP (pushL default lessP hp ⟨t.kind, t.att, k⟩))] _ [901] (by rw [hP]; exact cc) (by repeat' first | exact trivial | (intro _; assumption) | apply And.intro) (hin2 rfl rfl) (by simp [keysO]) (by simp) ?_
      simp only [vcb, ↓evSo_some, ↓reduceIte, reduceCtorEq, seval]
      exact lopK.on (k + 1, pushL default lessP hp ⟨t.kind, t.att, k⟩) ⟨hlt, by simp only [push_len]; omega, he⟩ (by simp only; omega) ((Wk.sw 901 900 _ hfn (by simp) (by simp)).trans (Wk.of _ hfn rfl (by simp only [slT, enb, vcb, ↓evSo_some, ↓reduceIte, reduceCtorEq, seval]; exact wS (by omega)) (by simp only [rowP, enb, vcb, ↓evSo_some, ↓reduceIte, reduceCtorEq, seval])))
    · rename_i h7
      rw [h7] at h; cases h
    · have ep : plT t k = [⟨t.kind, t.att, k⟩] := by
        rename_i h8 h7
        have h9 : ¬ t.kind = 1 := by simpa using h8
        have h7 : t.kind = 3 := by simpa using h
        rw [plT, if_neg h9, if_pos (.inr h7)]
      rw [ep] at he
      have cc := sHPush9 hp ⟨t.kind, t.att, k⟩ (by omega)
      simp only [vH9, vP] at cc
      refine TR.call [(11, .fix [.osl 900]), (900, rowP hp)] [(11, .fix [.osl 901]), (901, rowP (pushL default lessP hp ⟨t.kind, t.att, k⟩))] _ [901] (by rw [hP]; exact cc) (by repeat' first | exact trivial | (intro _; assumption) | apply And.intro) (hin2 rfl rfl) (by simp [keysO]) (by simp) ?_
      simp only [vcb, ↓evSo_some, ↓reduceIte, reduceCtorEq, seval]
      exact lopK.on (k + 1, pushL default lessP hp ⟨t.kind, t.att, k⟩) ⟨hlt, by simp only [push_len]; omega, he⟩ (by simp only; omega) ((Wk.sw 901 900 _ hfn (by simp) (by simp)).trans (Wk.of _ hfn rfl (by simp only [slT, enb, vcb, ↓evSo_some, ↓reduceIte, reduceCtorEq, seval]; exact wS (by omega)) (by simp only [rowP, enb, vcb, ↓evSo_some, ↓reduceIte, reduceCtorEq, seval])))
    · rename_i h8 h7
      have ep : plT t k = [] := by
        have h9 : ¬ t.kind = 1 := by simpa using h8
        have h7 : ¬ t.kind = 2 := by simpa using h7
        have h6 : ¬ t.kind = 3 := by simpa using h
        rw [plT, if_neg h9, if_neg (by omega)]
      rw [ep] at he
      exact lopK.on (k + 1, hp) ⟨hlt, by simp only; omega, he⟩ (by simp only; omega) (Wk.of _ hfn rfl (by simp only [slT, enb, vcb, ↓evSo_some, ↓reduceIte, reduceCtorEq, seval]; exact wS (by omega)) (by simp only [rowP, enb, vcb, ↓evSo_some, ↓reduceIte, reduceCtorEq, seval]))
  · have hkl : k = ts.length := by have := of_decide_eq_false h1; omega
    rw [hkl, List.drop_length, plsT, List.foldl_nil] at he
    have hpl := pushes_len (plsT 0 ts) []
    rw [he] at hpl
    simp only [List.length_nil, Nat.zero_add] at hpl
    have ho : orderT ts = (drainL default lessP hp.length hp).map (·.i) := by rw [orderT, he, hpl]
    simp only [rowP, vcb, ↓evSo_some, ↓reduceIte, reduceCtorEq, seval]
    refine vcC.loop (X := List Int × List Pl) (fun x => ⟨[(3, .own 11 0), (7, .osl 1000)], [(11, .fix [.osl 900]), (900, rowP x.2), (1000, .row 3 1 x.1.length (fun i => [.int .i64 (x.1.getD i 0)]))], [11, 900, 1000]⟩)
      (fun x => x.1.length + x.2.length ≤ 1000 ∧ orderT ts = x.1 ++ (drainL default lessP x.2.length x.2).map (·.i)) (fun x => x.2.length) ([], hp) ⟨by simp only [List.length_nil]; omega, by simp only [List.nil_append]; exact ho⟩
      ((Wk.row0 (s := 7) (k := 1000) (e := 3) (sz := 1) (f' := fun _ => []) rfl rfl (by simp)).trans (Wk.of _ hfn rfl (by (simp only [enb, vcb, ↓evSo_some, ↓reduceIte, reduceCtorEq, seval]) <;> (first | exact wS (by omega) | (rw [List.length_append]; exact wS (by omega)) | assumption)) (by simp only [rowP, enb, vcb, ↓evSo_some, ↓reduceIte, reduceCtorEq, seval]; exact OLe.row rfl (fun i hi => absurd hi (Nat.not_lt_zero i))))) ?_
    rintro ⟨acc, r⟩ ⟨hr, hor⟩
    simp only at hr hor
    simp only [vcb, ↓evSo_some, ↓reduceIte, reduceCtorEq, seval]
    refine TR.keep [900] (.d (.int .i64 r.length)) (valid_keep (ins := [(900, rowP r)]) (valid_call (by rw [hP]; exact sLen9 r) (by repeat' first | exact trivial | (intro _; assumption) | apply And.intro) (hin1 rfl) (by simp [keysO])) (hin1 rfl) (by simp [keysO]) (by simp [keysO])) ?_
    simp only [vcb, ↓evSo_some, ↓reduceIte, reduceCtorEq, seval]
    refine ⟨fun g => ?_, fun g => ?_⟩
    · have h0 : 0 < r.length := by have := of_decide_eq_true g; omega
      have cc := sHPop9 r h0 (by omega)
      simp only [vH9, vP] at cc
      refine TR.call [(11, .fix [.osl 900]), (900, rowP r)] [(11, .fix [.osl 901]), (901, rowP ((popL default lessP r).take (r.length - 1)))] _ [901] (by rw [hP]; exact cc) (by repeat' first | exact trivial | (intro _; assumption) | apply And.intro) (hin2 rfl rfl) (by simp [keysO]) (by simp) ?_
      simp only [vcb, ↓evSo_some, ↓reduceIte, reduceCtorEq, seval]
      repeat' first
          | refine And.intro (fun h => ?_) (fun h => ?_)
          | refine And.intro (by first | omega | (simp only [maxLen, decide_eq_true_eq, decide_eq_false_iff_not] at *; omega)) ?_
          | (refine TR.aslO rfl rfl rfl rfl trivial (Nat.le_of_ble_eq_true rfl) ?_
             try simp only [vcb, ↓evSo_some, ↓reduceIte, reduceCtorEq, seval])
          | refine And.intro trivial ?_
          | refine And.intro rfl ?_
          | fail
      have hrl : ((popL default lessP r).take (r.length - 1)).length = r.length - 1 := by rw [List.length_take, pop_len]; omega
      have hst : drainL default lessP r.length r = (popL default lessP r).getD (r.length - 1) default :: drainL default lessP (r.length - 1) ((popL default lessP r).take (r.length - 1)) := by
        conv => lhs; rw [show r.length = (r.length - 1) + 1 by omega, drain_step (n := r.length - 1) (by omega)]
      rw [hst] at hor
      refine lopK.on (acc ++ [((popL default lessP r).getD (r.length - 1) default).i], (popL default lessP r).take (r.length - 1)) ⟨by simp only [hrl, List.length_append, List.length_singleton]; omega, ?_⟩ (by simp only [hrl]; omega)
        ((Wk.sw 901 900 _ hfn (by simp) (by simp)).trans ((Wk.sw 56 1000 _ hfn (by simp) (by simp)).trans (Wk.of _ hfn rfl (by simp only [enb, vcb, ↓evSo_some, ↓reduceIte, reduceCtorEq, seval]) ?_)))
      · rw [hor, hrl]; simp
      · simp only [rowP, enb, vcb, ↓evSo_some, ↓reduceIte, reduceCtorEq, seval]
        exact OLe.app1 (fun n : Int => [.int .i64 n]) (fun i hi => by simp [hi]) (by simp [litRow])
    · have h0 : r.length = 0 := by have := of_decide_eq_false g; omega
      have hn : r = [] := List.eq_nil_of_length_eq_zero h0
      rw [h0] at hor
      simp only [drainL, List.map_nil, List.append_nil] at hor
      refine RetK.mk _ ((Wk.of (b := ⟨[(2, .osl 1000)], [(1000, .row 3 1 acc.length (fun i => [.int .i64 (acc.getD i 0)]))], [1000]⟩) _ hfn rfl (by (simp only [enb, vcb, ↓evSo_some, ↓reduceIte, reduceCtorEq, seval]) <;> (first | exact wS (by omega) | (rw [List.length_append]; exact wS (by omega)) | assumption)) (by simp only [enb, vcb, ↓evSo_some, ↓reduceIte, reduceCtorEq, seval])).trans (Wk.pub 1000 rfl)) (by simp only [rs15, rsb, vcb, ↓evSo_some, ↓reduceIte, reduceCtorEq, seval]) ?_ trivial
      simp only [rs15, rsb, vcb, ↓evSo_some, ↓reduceIte, reduceCtorEq, seval]
      rw [hor]; exact VLe.refl _
end Go.Proofs.Ytgpckelpmincmaa
end
section
set_option linter.unusedSimpArgs false
set_option linter.unusedVariables false
namespace Go.Proofs.Ytgpckelpmincmaa
set_option linter.unusedSimpArgs false
set_option linter.unusedVariables false
open Go.Bx
set_option maxRecDepth 10000
theorem lessP_iff {a b : Pl} : lessP a b = true ↔ a.k < b.k ∨ (a.k = b.k ∧ (a.a < b.a ∨ (a.a = b.a ∧ a.i < b.i))) := by
  unfold lessP cmp3 cmpI
  rw [decide_eq_true_eq]
  repeat' split
  all_goals omega
theorem lessP_not {a b : Pl} : lessP a b = false ↔ ¬ (a.k < b.k ∨ (a.k = b.k ∧ (a.a < b.a ∨ (a.a = b.a ∧ a.i < b.i)))) := by
  rw [← lessP_iff, Bool.not_eq_true]
def SrtP (l : List Pl) : Prop := l.Pairwise (fun a b => lessP b a = false)
theorem sorted_pls (xs : List Pl) : SrtP (drainL default lessP xs.length (xs.foldl (pushL default lessP) [])) ∧ (drainL default lessP xs.length (xs.foldl (pushL default lessP) [])).Perm xs :=
  hsort_ok default lessP (fun a b c h1 h2 => by rw [lessP_not] at *; omega) (fun a b h => by rw [lessP_iff] at h; rw [lessP_not]; omega) (fun a => by rw [lessP_not]; omega) xs
theorem srt_unique {a b : List Pl} (ha : SrtP a) (hb : SrtP b) (h : a.Perm b) : a = b :=
  h.eq_of_pairwise (le := fun a b => lessP b a = false) (fun x y _ _ h1 h2 => by
    rw [lessP_not] at h1 h2
    obtain ⟨x1, x2, x3⟩ := x
    obtain ⟨y1, y2, y3⟩ := y
    simp only at h1 h2
    have e1 : x1 = y1 := by omega
    have e2 : x2 = y2 := by omega
    have e3 : x3 = y3 := by omega
    rw [e1, e2, e3]) ha hb
def ordP (ts : List Tr) : List Pl := drainL default lessP (plsT 0 ts).length ((plsT 0 ts).foldl (pushL default lessP) [])
theorem ordP_ok (ts : List Tr) : SrtP (ordP ts) ∧ (ordP ts).Perm (plsT 0 ts) := sorted_pls _
theorem orderT_eq (ts : List Tr) : orderT ts = (ordP ts).map (·.i) := rfl
theorem ordP_unique {ts : List Tr} {l : List Pl} (h1 : SrtP l) (h2 : l.Perm (plsT 0 ts)) : l = ordP ts := srt_unique h1 (ordP_ok ts).1 (h2.trans (ordP_ok ts).2.symm)
theorem plsT_app : ∀ (ts us : List Tr) (i : Nat), plsT i (ts ++ us) = plsT i ts ++ plsT (i + ts.length) us
  | [], us, i => by simp [plsT]
  | t :: ts, us, i => by
    simp only [List.cons_append, plsT, plsT_app ts us (i + 1), List.length_cons, List.append_assoc]
    rw [show i + 1 + ts.length = i + (ts.length + 1) by omega]
theorem plsT_mem {ts : List Tr} {i : Nat} {p : Pl} (h : p ∈ plsT i ts) : ∃ j t, ts[j]? = some t ∧ p ∈ plT t (i + j) := by
  induction ts generalizing i with
  | nil => simp [plsT] at h
  | cons t r ih =>
    simp only [plsT, List.mem_append] at h
    rcases h with h | h
    · exact ⟨0, t, rfl, h⟩
    · obtain ⟨j, u, h1, h2⟩ := ih h
      exact ⟨j + 1, u, by simpa using h1, by rw [show i + (j + 1) = i + 1 + j by omega]; exact h2⟩
theorem plT_mem {t : Tr} {i : Nat} {p : Pl} (h : p ∈ plT t i) : p.k = t.kind ∧ p.i = i ∧ (t.kind = 1 ∧ p.a = 0 ∨ (t.kind = 2 ∨ t.kind = 3) ∧ p.a = t.att) := by
  unfold plT at h
  split at h
  · rename_i h1; simp at h; subst h; exact ⟨rfl, rfl, .inl ⟨h1, rfl⟩⟩
  · split at h
    · rename_i h1; simp at h; subst h; exact ⟨rfl, rfl, .inr ⟨h1, rfl⟩⟩
    · simp at h
def plA (ts : List Tr) (kd : Int) (i : Int) : Pl := ⟨kd, if kd = 1 then 0 else (ts.getD i.toNat default).att, i⟩
theorem posK_after (ts : List Tr) (kd : Int) (out : List Int) (t : Tr) : ∀ (n j : Nat), posK ts kd out t n ≤ j → j < n → kd ≠ 1 ∧ t.att < (ts.getD (out.getD j 0).toNat default).att
  | 0, _, _, h => by omega
  | n + 1, j, h1, h2 => by
    rw [posK] at h1
    split at h1
    · omega
    · rename_i hk
      split at h1
      · omega
      · rename_i ha
        by_cases e : j = n
        · subst e; exact ⟨hk, by omega⟩
        · exact posK_after ts kd out t n j h1 (by omega)
theorem posK_one (ts : List Tr) (out : List Int) (t : Tr) : ∀ n, posK ts 1 out t n = n
  | 0 => rfl
  | n + 1 => by rw [posK, if_pos rfl]
theorem posK_at (ts : List Tr) (kd : Int) (out : List Int) (t : Tr) (hk : kd ≠ 1) : ∀ (n : Nat), 0 < posK ts kd out t n → (ts.getD (out.getD (posK ts kd out t n - 1) 0).toNat default).att ≤ t.att
  | 0, h => by simp [posK] at h
  | n + 1, h => by
    rw [posK, if_neg hk] at h ⊢
    split
    · rename_i ha; exact ha
    · rename_i ha
      rw [if_neg ha] at h
      exact posK_at ts kd out t hk n h
structure KiP (ts : List Tr) (kd : Int) (k : Nat) (out : List Int) : Prop where
  mem : ∀ e, e ∈ out → 0 ≤ e ∧ e < k
  perm : (out.map (plA ts kd)).Perm ((plsT 0 (ts.take k)).filter (fun p => p.k == kd))
  srt : SrtP (out.map (plA ts kd))
theorem pl_filter {ts : List Tr} {kd : Int} (hkd : kd = 1 ∨ kd = 2 ∨ kd = 3) {k : Nat} {t : Tr} (ht : ts.getD k default = t) : (plT t k).filter (fun p => p.k == kd) = if t.kind = kd then [plA ts kd k] else [] := by
  unfold plT plA
  rw [Int.toNat_natCast, ht]
  by_cases e : t.kind = kd
  · subst e
    rcases hkd with e | e | e <;> rw [e] <;> simp
  · rw [if_neg e]
    split
    · simp; omega
    · split
      · simp; omega
      · rfl
theorem KiP.step {ts : List Tr} {kd : Int} {k : Nat} {out : List Int} {t : Tr} (hkd : kd = 1 ∨ kd = 2 ∨ kd = 3) (h : KiP ts kd k out) (hk : k < ts.length) (ht : ts.getD k default = t) : KiP ts kd (k + 1) (if t.kind = kd then insK ts kd out t k else out) := by
  have htk : ts.take (k + 1) = ts.take k ++ [t] := by
    obtain ⟨x, hd, hg, -, hat⟩ := drop_at hk
    rw [List.take_add_one, hat, ← ht, hg]; rfl
  have hf : (plsT 0 (ts.take (k + 1))).filter (fun p => p.k == kd) = (plsT 0 (ts.take k)).filter (fun p => p.k == kd) ++ (if t.kind = kd then [plA ts kd k] else []) := by
    rw [htk, plsT_app, List.filter_append, Nat.zero_add, List.length_take, Nat.min_eq_left (by omega)]
    congr 1
    simp only [plsT, List.append_nil]
    exact pl_filter hkd ht
  by_cases e : t.kind = kd
  · rw [if_pos e] at hf ⊢
    refine ⟨fun x hx => ?_, ?_, ?_⟩
    · rcases insK_mem hx with h1 | h1
      · have := h.mem x h1; omega
      · subst h1; omega
    · rw [hf]
      refine List.Perm.trans ?_ (h.perm.append_right _)
      simp only [insK, List.map_append, List.map_cons, List.map_nil, List.append_assoc]
      refine List.Perm.trans (List.Perm.append_left _ List.perm_append_comm) ?_
      rw [← List.append_assoc, ← List.map_append, List.take_append_drop]
    · have hs := h.srt
      unfold SrtP at hs ⊢
      have hp := posK_le ts kd out t out.length
      have hafter := posK_after ts kd out t out.length
      have hat := posK_at ts kd out t (n := out.length)
      have hone := fun e : kd = 1 => (by subst e; exact posK_one ts out t out.length : posK ts kd out t out.length = out.length)
      unfold insK
      generalize posK ts kd out t out.length = p at *
      have hsplit : out.map (plA ts kd) = (out.take p).map (plA ts kd) ++ (out.drop p).map (plA ts kd) := by rw [← List.map_append, List.take_append_drop]
      rw [hsplit, List.pairwise_append] at hs
      simp only [List.map_append, List.map_cons, List.map_nil, List.append_assoc]
      rw [List.pairwise_append]
      have hidx : ∀ j, j < out.length → out.getD j 0 ∈ out := fun j hj => by rw [List.getD_eq_getElem?_getD, List.getElem?_eq_getElem hj]; exact List.getElem_mem hj
      have hbefore : ∀ a, a ∈ (out.take p).map (plA ts kd) → lessP (plA ts kd k) a = false := by
        intro a ha
        obtain ⟨x, hx, rfl⟩ := List.mem_map.1 ha
        obtain ⟨j, hj⟩ := List.mem_iff_getElem?.1 hx
        have hjp : j < p := by have := (List.getElem?_eq_some_iff.1 hj).1; simp at this; omega
        rw [List.getElem?_take, if_pos hjp] at hj
        have hxk := h.mem x (List.mem_of_getElem? hj)
        rw [lessP_not]
        by_cases k1 : kd = 1
        · simp only [plA, k1, if_true]; omega
        · have h1 := hat k1 (by omega)
          have h2 : (ts.getD x.toNat default).att ≤ (ts.getD (out.getD (p - 1) 0).toNat default).att := by
            by_cases ej : j = p - 1
            · rw [← ej, List.getD_eq_getElem?_getD (l := out), hj]; exact Int.le_refl _
            · have hpw := h.srt
              unfold SrtP at hpw
              rw [List.pairwise_iff_getElem] at hpw
              have h3 := hpw j (p - 1) (by simp; omega) (by simp; omega) (by omega)
              rw [lessP_not] at h3
              have e1 : out[j]'(by omega) = x := by
                have : out[j]? = some (out[j]'(by omega)) := List.getElem?_eq_getElem (by omega)
                rw [hj] at this; exact (Option.some.inj this).symm
              have e2 : out.getD (p - 1) 0 = out[p - 1]'(by omega) := by rw [List.getD_eq_getElem?_getD, List.getElem?_eq_getElem (by omega)]; rfl
              simp only [List.getElem_map, plA, if_neg k1, e1, true_and] at h3
              rw [e2]; omega
          simp only [plA, if_neg k1, Int.toNat_natCast, ht]
          omega
      have hbehind : ∀ b, b ∈ (out.drop p).map (plA ts kd) → lessP b (plA ts kd k) = false := by
        intro b hb
        obtain ⟨x, hx, rfl⟩ := List.mem_map.1 hb
        obtain ⟨j, hj⟩ := List.mem_iff_getElem?.1 hx
        rw [List.getElem?_drop] at hj
        have hjl := (List.getElem?_eq_some_iff.1 hj).1
        have h1 := hafter (p + j) (by omega) hjl
        rw [List.getD_eq_getElem?_getD (l := out), hj, Option.getD_some] at h1
        rw [lessP_not]
        simp only [plA, if_neg h1.1, Int.toNat_natCast, ht]
        omega
      refine ⟨hs.1, ?_, fun a ha b hb => ?_⟩
      · exact List.Pairwise.cons hbehind hs.2.1
      · rcases List.mem_cons.1 hb with rfl | hb
        · exact hbefore a ha
        · exact hs.2.2 a ha b hb
  · rw [if_neg e] at hf ⊢
    rw [List.append_nil] at hf
    exact ⟨fun x hx => by have := h.mem x hx; omega, by rw [hf]; exact h.perm, h.srt⟩
theorem kindGo_ok {ts : List Tr} {kd : Int} (hkd : kd = 1 ∨ kd = 2 ∨ kd = 3) : ∀ (r : List Tr) (k : Nat) (out : List Int), ts.drop k = r → KiP ts kd k out → KiP ts kd ts.length (kindGo ts kd k r out)
  | [], k, out, hd, h => by
    have hl : ts.length ≤ k := by
      by_cases e : k < ts.length
      · obtain ⟨x, hd', _⟩ := drop_at e
        rw [hd] at hd'; cases hd'
      · omega
    rw [kindGo]
    refine ⟨fun e he => ?_, ?_, h.srt⟩
    · have h1 : (plA ts kd e) ∈ (plsT 0 (ts.take k)).filter (fun p => p.k == kd) := h.perm.mem_iff.1 (List.mem_map.2 ⟨e, he, rfl⟩)
      obtain ⟨j, t, g1, g2⟩ := plsT_mem (List.mem_filter.1 h1).1
      have g3 := (plT_mem g2).2.1
      have g4 := (List.getElem?_eq_some_iff.1 g1).1
      have := h.mem e he
      simp only [plA] at g3
      simp at g4
      omega
    · have := h.perm
      rw [List.take_of_length_le hl] at this
      rw [List.take_length]; exact this
  | t :: r, k, out, hd, h => by
    have hk : k < ts.length := by
      by_cases e : k < ts.length
      · exact e
      · rw [List.drop_eq_nil_of_le (by omega)] at hd; cases hd
    obtain ⟨x, hd', hg, -, -⟩ := drop_at hk
    rw [hd] at hd'
    cases hd'
    rw [kindGo]
    exact kindGo_ok hkd _ (k + 1) _ rfl (h.step hkd hk (hg _))
theorem kindT_ok {ts : List Tr} {kd : Int} (hkd : kd = 1 ∨ kd = 2 ∨ kd = 3) : KiP ts kd ts.length (kindT ts kd) :=
  kindGo_ok hkd ts 0 [] rfl ⟨by simp, by simp [plsT], List.Pairwise.nil⟩
theorem order_eq (ts : List Tr) : orderT ts = (kindT ts 1 ++ kindT ts 2) ++ kindT ts 3 := by
  have h1 := kindT_ok (ts := ts) (kd := 1) (.inl rfl)
  have h2 := kindT_ok (ts := ts) (kd := 2) (.inr (.inl rfl))
  have h3 := kindT_ok (ts := ts) (kd := 3) (.inr (.inr rfl))
  have hs : SrtP (((kindT ts 1).map (plA ts 1) ++ (kindT ts 2).map (plA ts 2)) ++ (kindT ts 3).map (plA ts 3)) := by
    unfold SrtP
    rw [List.pairwise_append, List.pairwise_append]
    refine ⟨⟨h1.srt, h2.srt, fun a ha b hb => ?_⟩, h3.srt, fun a ha b hb => ?_⟩
    · obtain ⟨x, -, rfl⟩ := List.mem_map.1 ha
      obtain ⟨y, -, rfl⟩ := List.mem_map.1 hb
      rw [lessP_not]; simp only [plA]; omega
    · obtain ⟨y, -, rfl⟩ := List.mem_map.1 hb
      rcases List.mem_append.1 ha with ha | ha <;> obtain ⟨x, -, rfl⟩ := List.mem_map.1 ha <;> rw [lessP_not] <;> simp only [plA] <;> omega
  have hk : ∀ p, p ∈ plsT 0 ts → p.k = 1 ∨ p.k = 2 ∨ p.k = 3 := fun p hp => by
    obtain ⟨j, t, -, g2⟩ := plsT_mem hp
    have := plT_mem g2
    omega
  have hperm : ∀ (l : List Pl), (∀ p, p ∈ l → p.k = 1 ∨ p.k = 2 ∨ p.k = 3) → ((l.filter (fun p => p.k == 1) ++ l.filter (fun p => p.k == 2)) ++ l.filter (fun p => p.k == 3)).Perm l := by
    intro l
    induction l with
    | nil => intro _; exact List.Perm.refl _
    | cons p l ih =>
      intro h
      have ih := ih (fun q hq => h q (List.mem_cons_of_mem _ hq))
      rcases h p List.mem_cons_self with e | e | e
      · simp only [List.filter_cons, e]
        simpa using ih
      · simp only [List.filter_cons, e]
        simp only [show ((2 : Int) == 1) = false from rfl, show ((2 : Int) == 3) = false from rfl, beq_self_eq_true, if_true, Bool.false_eq_true, if_false]
        refine List.Perm.trans ?_ (List.Perm.cons p ih)
        rw [List.append_assoc, List.cons_append, List.append_assoc]
        exact List.perm_middle
      · simp only [List.filter_cons, e]
        simp only [show ((3 : Int) == 1) = false from rfl, show ((3 : Int) == 2) = false from rfl, beq_self_eq_true, if_true, Bool.false_eq_true, if_false]
        exact List.Perm.trans List.perm_middle (List.Perm.cons p ih)
  have ht := List.take_length (l := ts)
  have p1 := h1.perm; have p2 := h2.perm; have p3 := h3.perm
  rw [ht] at p1 p2 p3
  have he := ordP_unique hs (((p1.append p2).append p3).trans (hperm _ hk))
  rw [orderT_eq, ← he]
  simp only [List.map_append, List.map_map]
  have hid : ∀ kd (l : List Int), l.map ((fun p : Pl => p.i) ∘ plA ts kd) = l := fun kd l => by
    conv => rhs; rw [← List.map_id l]
    exact List.map_congr_left fun x _ => rfl
  rw [hid, hid, hid]
end Go.Proofs.Ytgpckelpmincmaa
end
