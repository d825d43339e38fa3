import Derived.Test.YtgeidjhobbndjaaA
namespace Go.Proofs.Ytgeidjhobbndjaa
open Go.Bx
set_option maxRecDepth 10000

def chk (a b k : Int) : Int := if a < 0 ∨ b < 0 ∨ k < 0 then 1 else if k = 0 then 6 else 0
theorem s26 (a b k : Int) : Ctr Try.prog 26 [.d (.int .i64 a), .d (.int .i64 b), .d (.int .i64 k)] [] (.d (.int .i64 (chk a b k))) [] [] := by
  refine pure26 (by simp) rfl rfl ?_
  intro c hP hfn
  simp only [c26, vcC_seq, vcC_reg, vcC_skip, vcC_cond, vcC_ret, seqK_nrm, seqK_ret, nrmK_app, initE, vcR_nil, vcR_n, vcR_s, isCall, makes, hasU, newOf, opR, binI, pickV, evS, evV, evX, gOf, Go.Bx.get, St.stp, Ef.stp, lgs, setE, applyU, newN, Option.getD_some, List.not_mem_nil, Bool.true_and, Bool.false_eq_true, Bool.cond_true_left, reduceCtorEq, ↓reduceIte, true_and, and_true, and_self, not_false_eq_true, forall_const, implies_true, imp_self, eq_self, Nat.reduceAdd, Nat.reduceEqDiff, Nat.zero_add, Nat.succ_ne_self, Nat.zero_ne_one]
  refine ⟨fun h => ?_, fun h => ⟨fun h2 => ?_, fun h2 => ?_⟩⟩
  · have h' : a < 0 ∨ b < 0 ∨ k < 0 := by simp only [Bool.or_eq_true, decide_eq_true_eq] at h; omega
    exact RetK.pure (by simp only [rs26, ressS, resS, and_self]) (by (simp only [rs26, retV, resV, Go.Bx.get, ↓reduceIte, eq_self, VLe_int, Go.Bx.get, ↓reduceIte, eq_self]) <;> (first | rw [chk, if_pos h']))
  · have h' : ¬ (a < 0 ∨ b < 0 ∨ k < 0) := by simp only [Bool.or_eq_false_iff, decide_eq_false_iff_not] at h; omega
    have h2' : k = 0 := by simpa using h2
    exact RetK.pure (by simp only [rs26, ressS, resS, and_self]) (by (simp only [rs26, retV, resV, Go.Bx.get, ↓reduceIte, eq_self, VLe_int, Go.Bx.get, ↓reduceIte, eq_self]) <;> (first | rw [chk, if_neg h', if_pos h2']))
  · have h' : ¬ (a < 0 ∨ b < 0 ∨ k < 0) := by simp only [Bool.or_eq_false_iff, decide_eq_false_iff_not] at h; omega
    have h2' : ¬ k = 0 := by simpa using h2
    exact RetK.pure (by simp only [rs26, ressS, resS, and_self]) (by (simp only [rs26, retV, resV, Go.Bx.get, ↓reduceIte, eq_self, VLe_int, Go.Bx.get, ↓reduceIte, eq_self]) <;> (first | rw [chk, if_neg h', if_neg h2']))
theorem of_chk {up : Nat → Nat → Nat → Bool} {a b k : Int} (h : chk a b k ≠ 0) : ofR up a b k = (0, chk a b k) := by
  unfold chk at h ⊢
  unfold ofR
  by_cases h1 : a < 0 ∨ b < 0 ∨ k < 0
  · rw [if_pos h1, if_pos h1]
  · by_cases h2 : k = 0
    · rw [if_neg h1, if_pos h2, if_neg h1, if_pos h2]
    · rw [if_neg h1, if_neg h2] at h; exact absurd rfl h
theorem chk_ok {a b k : Int} (h : chk a b k = 0) : 0 ≤ a ∧ 0 ≤ b ∧ 0 < k := by
  unfold chk at h
  by_cases h1 : a < 0 ∨ b < 0 ∨ k < 0
  · rw [if_pos h1] at h; cases h
  · by_cases h2 : k = 0
    · rw [if_neg h1, if_pos h2] at h; cases h
    · omega
theorem ofR_nat {up : Nat → Nat → Nat → Bool} (A B K : Nat) (hk : 0 < K) : ofR up (A : Int) (B : Int) (K : Int) = (if 4000000000000000000 < A * B / K then (0, 5) else
      if 4000000000000000000 < A * B / K + (if up (A * B / K) (A * B % K) K = true then 1 else 0) then (0, 5)
      else (((A * B / K + (if up (A * B / K) (A * B % K) K = true then 1 else 0) : Nat) : Int), 0)) := by
  rw [ofR, if_neg (by omega), if_neg (by omega)]; rfl
theorem s13 (a b k : Int) (ha : a ≤ 9223372036854775807) (hb : b ≤ 9223372036854775807) (hc : k ≤ 9223372036854775807) :
    Ctr Try.prog 13 [.d (.int .i64 a), .d (.int .i64 b), .d (.int .i64 k)] [] (.tup [.d (.int .i64 (downR a b k).1), .d (.int .i64 (downR a b k).2)]) [] [] := by
  refine pure13 (by simp) rfl rfl ?_
  intro c hP hfn
  simp only [c13, vcC_seq, vcC_reg, seqK_nrm, nrmK_app, initE, vcR_nil, vcR_n, isCall, makes, newOf, opR, evS, evV, evX, Go.Bx.get, St.stp, Ef.stp, lgs, setE, applyU, newN, Bool.false_eq_true, reduceCtorEq, ↓reduceIte, true_and, eq_self, Nat.reduceAdd, Nat.reduceEqDiff, Nat.zero_add, Nat.zero_ne_one]
  repeat' first
      | (first
          | refine TR.p hP (by first | exact s26 a b k) (by repeat' first | exact trivial | (intro _; assumption) | apply And.intro) ?_
          | refine TR.gp hP rfl (fun _ => by first | exact s26 a b k) (fun _ => by repeat' first | exact trivial | (intro _; assumption) | apply And.intro) ?_
          | refine TR.pv hP rfl (by first | exact s26 a b k) trivial (by repeat' first | exact trivial | (intro _; assumption) | apply And.intro) ?_
         try simp only [vcC_seq, vcC_reg, vcC_skip, vcC_cond, vcC_ret, seqK_nrm, seqK_ret, nrmK_app, vcR_nil, vcR_n, isCall, makes, newOf, opR, binI, evS, evV, evX, Go.Bx.get, St.stp, Ef.stp, lgs, setE, applyU, newN, Bool.false_eq_true, reduceCtorEq, ↓reduceIte, true_and, and_self, eq_self, Nat.reduceEqDiff, Nat.zero_ne_one])
      | refine And.intro (fun h => ?_) (fun h => ?_)
      | refine And.intro (by first | omega | (simp only [maxLen, decide_eq_true_eq, decide_eq_false_iff_not] at *; omega)) ?_
      | refine And.intro rfl ?_
      | fail
  · have e := of_chk (up := upD) (show chk a b k ≠ 0 by simpa using h)
    (refine RetK.pure (by simp only [rs13, ressS, resS, and_self]) (VLe.tups ?_); simp only [ressV, resV, Go.Bx.get, ↓reduceIte, eq_self, Nat.succ_ne_self])
    rw [downR, e]; exact ⟨VLe.refl _, VLe.refl _, trivial⟩
  have hq := chk_ok (show chk a b k = 0 by simpa using h)
  obtain ⟨A, rfl⟩ : ∃ A : Nat, a = (A : Int) := ⟨a.toNat, by omega⟩
  obtain ⟨B, rfl⟩ : ∃ B : Nat, b = (B : Int) := ⟨b.toNat, by omega⟩
  obtain ⟨K, rfl⟩ : ∃ K : Nat, k = (K : Int) := ⟨k.toNat, by omega⟩
  have e := ofR_nat (up := upD) A B K (by omega)
  have e2 : twoR A B K = if 4000000000000000000 < A * B / K then (0, 0, false) else (((A * B / K : Nat) : Int), ((A * B % K : Nat) : Int), true) := rfl
  repeat' first
      | (first
          | refine TR.p hP (by first | exact s23 A B K (by omega) (by omega) (by omega) (by omega)) (by repeat' first | exact trivial | (intro _; assumption) | apply And.intro) ?_
          | refine TR.gp hP rfl (fun _ => by first | exact s23 A B K (by omega) (by omega) (by omega) (by omega)) (fun _ => by repeat' first | exact trivial | (intro _; assumption) | apply And.intro) ?_
          | refine TR.pv hP rfl (by first | exact s23 A B K (by omega) (by omega) (by omega) (by omega)) trivial (by repeat' first | exact trivial | (intro _; assumption) | apply And.intro) ?_
         try simp only [vcC_seq, vcC_reg, vcC_skip, vcC_cond, vcC_ret, seqK_nrm, seqK_ret, nrmK_app, vcR_nil, vcR_n, isCall, makes, newOf, opR, evS, evV, evX, Go.Bx.get, nth, St.stp, Ef.stp, lgs, setE, applyU, newN, List.length_cons, List.length_nil, Bool.false_eq_true, ↓reduceIte, true_and, and_self, eq_self, Nat.reduceAdd, Nat.reduceEqDiff, Nat.zero_add, Nat.succ_ne_self, Nat.reduceLT])
      | refine And.intro (fun h => ?_) (fun h => ?_)
      | refine And.intro (by first | omega | (simp only [maxLen, decide_eq_true_eq, decide_eq_false_iff_not] at *; omega)) ?_
      | refine And.intro rfl ?_
      | fail
  · have h4 : 4000000000000000000 < A * B / K := by
      by_cases h4 : 4000000000000000000 < A * B / K
      · exact h4
      · rw [e2, if_neg h4] at h; cases h
    (refine RetK.pure (by simp only [rs13, ressS, resS, and_self]) (VLe.tups ?_); simp only [ressV, resV, Go.Bx.get, ↓reduceIte, eq_self, Nat.succ_ne_self])
    rw [downR, e, if_pos h4]; exact ⟨VLe.refl _, VLe.refl _, trivial⟩
  · have h4 : ¬ 4000000000000000000 < A * B / K := by
      intro h4; rw [e2, if_pos h4] at h; cases h
    (refine RetK.pure (by simp only [rs13, ressS, resS, and_self]) (VLe.tups ?_); simp only [ressV, resV, Go.Bx.get, ↓reduceIte, eq_self, Nat.succ_ne_self])
    rw [downR, e, if_neg h4, e2, if_neg h4]
    simp only [upD, Bool.false_eq_true, if_false, Nat.add_zero, h4]
    exact ⟨VLe.refl _, VLe.refl _, trivial⟩
theorem s16 (a b k : Int) (ha : a ≤ 9223372036854775807) (hb : b ≤ 9223372036854775807) (hc : k ≤ 9223372036854775807) :
    Ctr Try.prog 16 [.d (.int .i64 a), .d (.int .i64 b), .d (.int .i64 k)] [] (.tup [.d (.int .i64 (ofR upE a b k).1), .d (.int .i64 (ofR upE a b k).2)]) [] [] := by
  refine pure16 (by simp) rfl rfl ?_
  intro c hP hfn
  simp only [c16, vcC_seq, vcC_reg, seqK_nrm, nrmK_app, initE, vcR_nil, vcR_n, isCall, makes, newOf, opR, evS, evV, evX, Go.Bx.get, St.stp, Ef.stp, lgs, setE, applyU, newN, Bool.false_eq_true, reduceCtorEq, ↓reduceIte, true_and, eq_self, Nat.reduceAdd, Nat.reduceEqDiff, Nat.zero_add, Nat.zero_ne_one]
  repeat' first
      | (first
          | refine TR.p hP (by first | exact s26 a b k) (by repeat' first | exact trivial | (intro _; assumption) | apply And.intro) ?_
          | refine TR.gp hP rfl (fun _ => by first | exact s26 a b k) (fun _ => by repeat' first | exact trivial | (intro _; assumption) | apply And.intro) ?_
          | refine TR.pv hP rfl (by first | exact s26 a b k) trivial (by repeat' first | exact trivial | (intro _; assumption) | apply And.intro) ?_
         try simp only [vcC_seq, vcC_reg, vcC_skip, vcC_cond, vcC_ret, seqK_nrm, seqK_ret, nrmK_app, vcR_nil, vcR_n, isCall, makes, newOf, opR, binI, evS, evV, evX, Go.Bx.get, St.stp, Ef.stp, lgs, setE, applyU, newN, Bool.false_eq_true, reduceCtorEq, ↓reduceIte, true_and, and_self, eq_self, Nat.reduceEqDiff, Nat.zero_ne_one])
      | refine And.intro (fun h => ?_) (fun h => ?_)
      | refine And.intro (by first | omega | (simp only [maxLen, decide_eq_true_eq, decide_eq_false_iff_not] at *; omega)) ?_
      | refine And.intro rfl ?_
      | fail
  · have e := of_chk (up := upE) (show chk a b k ≠ 0 by simpa using h)
    (refine RetK.pure (by simp only [rs16, ressS, resS, and_self]) (VLe.tups ?_); simp only [ressV, resV, Go.Bx.get, ↓reduceIte, eq_self, Nat.succ_ne_self])
    rw [e]; exact ⟨VLe.refl _, VLe.refl _, trivial⟩
  have hq := chk_ok (show chk a b k = 0 by simpa using h)
  obtain ⟨A, rfl⟩ : ∃ A : Nat, a = (A : Int) := ⟨a.toNat, by omega⟩
  obtain ⟨B, rfl⟩ : ∃ B : Nat, b = (B : Int) := ⟨b.toNat, by omega⟩
  obtain ⟨K, rfl⟩ : ∃ K : Nat, k = (K : Int) := ⟨k.toNat, by omega⟩
  have hk0 : 0 < K := by omega
  have e := ofR_nat (up := upE) A B K hk0
  have c23 := s23 A B K (by omega) (by omega) (by omega) hk0
  have hr := Nat.mod_lt (A * B) hk0
  by_cases h4 : 4000000000000000000 < A * B / K
  · rw [twoR, if_pos h4] at c23
    repeat' first
        | (first
            | refine TR.p hP (by first | exact c23) (by repeat' first | exact trivial | (intro _; assumption) | apply And.intro) ?_
            | refine TR.gp hP rfl (fun _ => by first | exact c23) (fun _ => by repeat' first | exact trivial | (intro _; assumption) | apply And.intro) ?_
            | refine TR.pv hP rfl (by first | exact c23) trivial (by repeat' first | exact trivial | (intro _; assumption) | apply And.intro) ?_
           try simp only [vcC_seq, vcC_reg, vcC_skip, vcC_cond, vcC_ret, seqK_nrm, seqK_ret, nrmK_app, vcR_nil, vcR_n, vcR_s, isCall, makes, hasU, newOf, opR, binI, pickV, evS, evV, evX, gOf, Go.Bx.get, nth, St.stp, Ef.stp, lgs, setE, applyU, newN, Option.getD_some, List.length_cons, List.length_nil, List.not_mem_nil, Bool.true_and, Bool.not_true, Bool.not_false, Bool.false_eq_true, Bool.true_eq_false, Bool.cond_true_left, Bool.cond_false_right, cond_true, cond_false, reduceCtorEq, ↓reduceIte, true_and, and_true, and_self, false_and, not_false_eq_true, forall_const, false_implies, implies_true, imp_self, eq_self, ne_eq, Nat.reduceAdd, Nat.reduceEqDiff, Nat.zero_add, Nat.succ_ne_self, Nat.reduceLT])
        | refine And.intro (fun h => ?_) (fun h => ?_)
        | refine And.intro (by first | omega | (simp only [maxLen, decide_eq_true_eq, decide_eq_false_iff_not] at *; omega)) ?_
        | refine And.intro rfl ?_
        | fail
    (refine RetK.pure (by simp only [rs16, ressS, resS, and_self]) (VLe.tups ?_); simp only [ressV, resV, Go.Bx.get, ↓reduceIte, eq_self, Nat.succ_ne_self])
    rw [e, if_pos h4]; exact ⟨VLe.refl _, VLe.refl _, trivial⟩
  · rw [twoR, if_neg h4] at c23
    rw [if_neg h4] at e
    generalize A * B / K = q at *
    generalize A * B % K = r at *
    have e5 : IntKind.i64.wrap ((K : Int) - (r : Int)) = ((K - r : Nat) : Int) := (wI (by omega)).trans (by omega)
    have e6 : ((q : Nat) : Int).tmod 2 = ((q % 2 : Nat) : Int) := tmod_nat q 2
    have e7 : IntKind.i64.wrap ((q : Int) + 1) = ((q + 1 : Nat) : Int) := (wI (by omega)).trans (by omega)
    have hcond : (decide ((r : Int) > ((K - r : Nat) : Int)) || ((r : Int) == ((K - r : Nat) : Int) && ((q % 2 : Nat) : Int) == 1)) = upE q r K := by
      rw [Bool.eq_iff_iff]; simp only [upE, Bool.or_eq_true, Bool.and_eq_true, decide_eq_true_eq, beq_iff_eq]; omega
    by_cases hu : upE q r K = true
    · rw [if_pos hu] at e
      rw [hu] at hcond
      repeat' first
          | (first
              | refine TR.p hP (by first | exact c23) (by repeat' first | exact trivial | (intro _; assumption) | apply And.intro) ?_
              | refine TR.gp hP rfl (fun _ => by first | exact c23) (fun _ => by repeat' first | exact trivial | (intro _; assumption) | apply And.intro) ?_
              | refine TR.pv hP rfl (by first | exact c23) trivial (by repeat' first | exact trivial | (intro _; assumption) | apply And.intro) ?_
             try simp only [e5, e6, e7, hcond, vcC_seq, vcC_reg, vcC_skip, vcC_cond, vcC_ret, seqK_nrm, seqK_ret, nrmK_app, vcR_nil, vcR_n, vcR_s, isCall, makes, hasU, newOf, opR, binI, pickV, evS, evV, evX, gOf, Go.Bx.get, nth, St.stp, Ef.stp, lgs, setE, applyU, newN, Option.getD_some, List.length_cons, List.length_nil, List.not_mem_nil, Bool.true_and, Bool.and_self, Bool.not_true, Bool.not_false, Bool.false_eq_true, Bool.true_eq_false, Bool.cond_true_left, Bool.cond_false_right, cond_true, cond_false, reduceCtorEq, ↓reduceIte, true_and, and_true, and_self, not_false_eq_true, forall_const, false_implies, implies_true, imp_self, eq_self, ne_eq, Nat.reduceAdd, Nat.reduceEqDiff, Nat.zero_add, Nat.succ_ne_self, Nat.reduceLT])
          | refine And.intro (fun h => ?_) (fun h => ?_)
          | refine And.intro (by first | omega | (simp only [maxLen, decide_eq_true_eq, decide_eq_false_iff_not] at *; omega)) ?_
          | refine And.intro rfl ?_
          | fail
      · have h' : 4000000000000000000 < q + 1 := by have := of_decide_eq_true h; omega
        (refine RetK.pure (by simp only [rs16, ressS, resS, and_self]) (VLe.tups ?_); simp only [ressV, resV, Go.Bx.get, ↓reduceIte, eq_self, Nat.succ_ne_self])
        rw [e, if_pos h']; exact ⟨VLe.refl _, VLe.refl _, trivial⟩
      · have h' : ¬ 4000000000000000000 < q + 1 := by have := of_decide_eq_false h; omega
        (refine RetK.pure (by simp only [rs16, ressS, resS, and_self]) (VLe.tups ?_); simp only [ressV, resV, Go.Bx.get, ↓reduceIte, eq_self, Nat.succ_ne_self])
        rw [e, if_neg h']; exact ⟨VLe.refl _, VLe.refl _, trivial⟩
    · have hu : upE q r K = false := by simpa using hu
      rw [hu] at hcond
      simp only [hu, Bool.false_eq_true, if_false, Nat.add_zero] at e
      repeat' first
          | (first
              | refine TR.p hP (by first | exact c23) (by repeat' first | exact trivial | (intro _; assumption) | apply And.intro) ?_
              | refine TR.gp hP rfl (fun _ => by first | exact c23) (fun _ => by repeat' first | exact trivial | (intro _; assumption) | apply And.intro) ?_
              | refine TR.pv hP rfl (by first | exact c23) trivial (by repeat' first | exact trivial | (intro _; assumption) | apply And.intro) ?_
             try simp only [e5, e6, e7, hcond, vcC_seq, vcC_reg, vcC_skip, vcC_cond, vcC_ret, seqK_nrm, seqK_ret, nrmK_app, vcR_nil, vcR_n, vcR_s, isCall, makes, hasU, newOf, opR, binI, pickV, evS, evV, evX, gOf, Go.Bx.get, nth, St.stp, Ef.stp, lgs, setE, applyU, newN, Option.getD_some, List.length_cons, List.length_nil, List.not_mem_nil, Bool.true_and, Bool.and_self, Bool.not_true, Bool.not_false, Bool.false_eq_true, Bool.cond_true_left, Bool.cond_false_right, cond_true, cond_false, reduceCtorEq, ↓reduceIte, true_and, and_true, and_self, not_false_eq_true, forall_const, false_implies, implies_true, imp_self, eq_self, ne_eq, Nat.reduceAdd, Nat.reduceEqDiff, Nat.zero_add, Nat.succ_ne_self, Nat.reduceLT])
          | refine And.intro (fun h => ?_) (fun h => ?_)
          | refine And.intro (by first | omega | (simp only [maxLen, decide_eq_true_eq, decide_eq_false_iff_not] at *; omega)) ?_
          | refine And.intro rfl ?_
          | fail
      · exfalso; have := of_decide_eq_true h; omega
      · (refine RetK.pure (by simp only [rs16, ressS, resS, and_self]) (VLe.tups ?_); simp only [ressV, resV, Go.Bx.get, ↓reduceIte, eq_self, Nat.succ_ne_self])
        rw [e, if_neg h4]; exact ⟨VLe.refl _, VLe.refl _, trivial⟩
theorem s18 (a b : Int) (ha : a ≤ 9223372036854775807) (hb : b ≤ 9223372036854775807) :
    Ctr Try.prog 18 [.d (.int .i64 a), .d (.int .i64 b)] [] (.tup [.d (.int .i64 (bpR a b).1), .d (.int .i64 (bpR a b).2)]) [] [] := by
  refine pure18 (by simp) rfl rfl ?_
  intro c hP hfn
  simp only [c18, vcC_seq, vcC_reg, seqK_nrm, nrmK_app, initE, vcR_nil, vcR_n, isCall, makes, newOf, opR, evS, evV, evX, Go.Bx.get, St.stp, Ef.stp, lgs, setE, applyU, newN, Bool.false_eq_true, reduceCtorEq, ↓reduceIte, true_and, eq_self, Nat.reduceEqDiff, Nat.zero_add, Nat.zero_ne_one]
  repeat' first
      | (first
          | refine TR.p hP (by first | exact s16 a b 10000 ha hb (by omega)) (by repeat' first | exact trivial | (intro _; assumption) | apply And.intro) ?_
          | refine TR.gp hP rfl (fun _ => by first | exact s16 a b 10000 ha hb (by omega)) (fun _ => by repeat' first | exact trivial | (intro _; assumption) | apply And.intro) ?_
          | refine TR.pv hP rfl (by first | exact s16 a b 10000 ha hb (by omega)) trivial (by repeat' first | exact trivial | (intro _; assumption) | apply And.intro) ?_
         try simp only [vcC_ret, seqK_nrm, nrmK_app, vcR_nil, vcR_n, isCall, makes, newOf, opR, evS, evV, evX, Go.Bx.get, nth, St.stp, Ef.stp, lgs, setE, applyU, newN, List.length_cons, List.length_nil, Bool.false_eq_true, ↓reduceIte, true_and, and_self, eq_self, Nat.reduceAdd, Nat.reduceEqDiff, Nat.zero_add, Nat.succ_ne_self, Nat.reduceLT])
      | refine And.intro (fun h => ?_) (fun h => ?_)
      | refine And.intro (by first | omega | (simp only [maxLen, decide_eq_true_eq, decide_eq_false_iff_not] at *; omega)) ?_
      | refine And.intro rfl ?_
      | fail
  (refine RetK.pure (by simp only [rs18, ressS, resS, and_self]) (VLe.tups ?_); simp only [ressV, resV, Go.Bx.get, ↓reduceIte, eq_self, Nat.succ_ne_self])
  exact ⟨VLe.refl _, VLe.refl _, trivial⟩

/-! Sums of parts. -/
def sumQ : Int → List Int → Int × Bool
  | n, [] => (n, true)
  | n, p :: r => if p > IntKind.i64.wrap (4000000000000000000 - n) then (0, false) else sumQ (IntKind.i64.wrap (n + p)) r
theorem s22 (l : List Int) (hl : l.length ≤ 9223372036854775807) : Ctr Try.prog 22 [.d (slK .i64 l)] [] (.tup [.d (.int .i64 (sumQ 0 l).1), .d (.bool (sumQ 0 l).2)]) [] [] := by
  refine pure22 (by simp) rfl rfl ?_
  intro c hP hfn
  simp only [c22, vcC_seq, vcC_reg, vcC_block, seqK_nrm, nrmK_app, initE, vcR_nil, vcR_n, isCall, makes, slK, newOf, opR, evS, evV, evX, St.stp, Ef.stp, lgs, setE, applyU, newN, Bool.false_eq_true, ↓reduceIte, true_and]
  refine vcC.loop (X := Nat × Int) (fun x => ⟨[(0, .d (slK .i64 l)), (4, .d (.int .i64 x.2)), (5, .d (.int .i64 x.1))], [], []⟩)
    (fun x => x.1 ≤ l.length ∧ sumQ 0 l = sumQ x.2 (l.drop x.1)) (fun x => l.length - x.1) (0, 0) ⟨Nat.zero_le _, rfl⟩ (Wk.of [] hfn rfl (by (simp only [EnvLe, VLe_refl, slK, Go.Bx.get, reduceCtorEq, ↓reduceIte, and_self, eq_self, Nat.succ_ne_self, Int.cast_ofNat_Int]) <;> (first | exact wS (by omega) | (rw [List.length_append]; exact wS (by omega)) | assumption)) (by simp only [OwnLe])) ?_
  rintro ⟨k, n⟩ ⟨hk, he⟩
  simp only at hk he
  simp only [vcC_seq, vcC_reg, vcC_skip, vcC_cond, vcC_block, vcC_exit, vcC_ret, seqK_nrm, seqK_exit, seqK_ret, blkK_nrm, blkK_exit, blkK_ret, lopK_exit, lopK_ret, nrmK_app, vcR_nil, vcR_n, isCall, makes, slK, newOf, opR, binI, evS, evV, evX, Go.Bx.get, cutD, nthD, St.stp, Ef.stp, lgs, setE, applyU, newN, List.length_cons, List.length_nil, Bool.false_eq_true, reduceCtorEq, ↓reduceIte, true_and, and_true, and_self, eq_self, Nat.reduceEqDiff, Nat.zero_add, Nat.le_refl, Nat.succ_ne_self, Int.toNat_natCast]
  refine ⟨fun h1 => ?_, fun h1 => ?_⟩
  · have hlt : k < l.length := by have := of_decide_eq_true h1; omega
    obtain ⟨x, hd, hg, -, -⟩ := drop_at hlt
    simp only [hg]
    rw [hd, sumQ] at he
    repeat' first
        | (first
            | refine TR.p hP (by first | fail) (by repeat' first | exact trivial | (intro _; assumption) | apply And.intro) ?_
            | refine TR.gp hP rfl (fun _ => by first | fail) (fun _ => by repeat' first | exact trivial | (intro _; assumption) | apply And.intro) ?_
            | refine TR.pv hP rfl (by first | fail) trivial (by repeat' first | exact trivial | (intro _; assumption) | apply And.intro) ?_
           try simp only [↓evSo_some, vcC_seq, vcC_reg, vcC_drw, vcC_skip, vcC_cond, vcC_block, vcC_exit, vcC_ret, vcC_bad, seqK_nrm, seqK_exit, seqK_ret, blkK_nrm, blkK_exit, blkK_ret, lopK_exit, lopK_ret, lopX_exit, lopX_ret, nrmK_app, drwK_app, initE, vcR_nil, vcR_n, vcR_s, isCall, makes, hasU, slK, newOf, opR, binI, pickV, evS, evV, evX, evSs, evVs, evParts, evPartsS, fillV, catV, gOf, Go.Bx.get, Go.Bx.own?, cellsV, isCell, cut, cutD, nth, nthD, dropV, takeV, dropD, takeDV, putV, toDs, St.stp, Ef.stp, Stp.lg, lgs, setE, applyU, setO, delO, newN, keysO, callU, Ef.bad, Option.getD_some, Option.getD_none, Option.map_some, Option.map_none, List.all_cons, List.all_nil, List.map_cons, List.map_nil, List.append_nil, List.nil_append, List.cons_append, List.length_cons, List.length_nil, List.mem_cons, List.not_mem_nil, Bool.and_true, Bool.true_and, Bool.and_self, Bool.not_true, Bool.not_false, Bool.or_self, Bool.or_false, Bool.false_or, Bool.false_eq_true, Bool.true_eq_false, Bool.cond_true_left, Bool.cond_false_right, cond_true, cond_false, reduceCtorEq, ↓reduceIte, if_true, if_false, true_and, and_true, and_self, false_and, and_false, or_false, false_or, not_false_eq_true, not_true_eq_false, forall_const, true_implies, false_implies, implies_true, imp_self, eq_self, ne_eq, Nat.reduceAdd, Nat.reduceSub, Nat.reduceMul, Nat.reduceLeDiff, Nat.reduceEqDiff, Nat.zero_add, Nat.add_zero, Nat.le_refl, Nat.succ_ne_self, Nat.one_ne_zero, Nat.zero_ne_one, Int.toNat_natCast, litRow, List.drop_succ_cons, List.drop_zero, List.take_succ_cons, List.take_zero, pubE, pubV, pubL, pubO, eqS, eqB, Nat.reduceLT, Nat.not_lt_zero, Nat.sub_zero, decide_true, decide_false, true_or, or_true, Int.le_refl, Int.cast_ofNat_Int, Int.reduceToNat, Int.reduceLT, Int.reduceLE, beq_self_eq_true, Nat.mul_one, Nat.one_mul, Nat.zero_mul])
        | refine And.intro (fun h => ?_) (fun h => ?_)
        | refine And.intro (by first | omega | (simp only [maxLen, decide_eq_true_eq, decide_eq_false_iff_not] at *; omega)) ?_
        | refine And.intro rfl ?_
        | fail
    · rw [if_pos (of_decide_eq_true h)] at he
      (refine RetK.pure (by simp only [rs22, ressS, resS, and_self]) (VLe.tups ?_); simp only [ressV, resV, Go.Bx.get, ↓reduceIte, eq_self, Nat.succ_ne_self])
      rw [he]; exact ⟨VLe.refl _, VLe.refl _, trivial⟩
    · rw [if_neg (of_decide_eq_false h)] at he
      exact lopK.on (k + 1, IntKind.i64.wrap (n + x)) ⟨hlt, he⟩ (by simp only; omega) (Wk.of [] hfn rfl (by (simp only [EnvLe, VLe_refl, VLe_int, Go.Bx.get, reduceCtorEq, ↓reduceIte, true_and, and_true, eq_self, Nat.reduceEqDiff, Nat.succ_ne_self]) <;> (first | exact wS (by omega) | (rw [List.length_append]; exact wS (by omega)) | assumption)) (by simp only [OwnLe]))
  · have hkl : k = l.length := by have := of_decide_eq_false h1; omega
    rw [hkl, List.drop_length, sumQ] at he
    repeat' first
        | (first
            | refine TR.p hP (by first | fail) (by repeat' first | exact trivial | (intro _; assumption) | apply And.intro) ?_
            | refine TR.gp hP rfl (fun _ => by first | fail) (fun _ => by repeat' first | exact trivial | (intro _; assumption) | apply And.intro) ?_
            | refine TR.pv hP rfl (by first | fail) trivial (by repeat' first | exact trivial | (intro _; assumption) | apply And.intro) ?_
           try simp only [↓evSo_some, vcC_seq, vcC_reg, vcC_drw, vcC_skip, vcC_cond, vcC_block, vcC_exit, vcC_ret, vcC_bad, seqK_nrm, seqK_exit, seqK_ret, blkK_nrm, blkK_exit, blkK_ret, lopK_exit, lopK_ret, lopX_exit, lopX_ret, nrmK_app, drwK_app, initE, vcR_nil, vcR_n, vcR_s, isCall, makes, hasU, slK, newOf, opR, binI, pickV, evS, evV, evX, evSs, evVs, evParts, evPartsS, fillV, catV, gOf, Go.Bx.get, Go.Bx.own?, cellsV, isCell, cut, cutD, nth, nthD, dropV, takeV, dropD, takeDV, putV, toDs, St.stp, Ef.stp, Stp.lg, lgs, setE, applyU, setO, delO, newN, keysO, callU, Ef.bad, Option.getD_some, Option.getD_none, Option.map_some, Option.map_none, List.all_cons, List.all_nil, List.map_cons, List.map_nil, List.append_nil, List.nil_append, List.cons_append, List.length_cons, List.length_nil, List.mem_cons, List.not_mem_nil, Bool.and_true, Bool.true_and, Bool.and_self, Bool.not_true, Bool.not_false, Bool.or_self, Bool.or_false, Bool.false_or, Bool.false_eq_true, Bool.true_eq_false, Bool.cond_true_left, Bool.cond_false_right, cond_true, cond_false, reduceCtorEq, ↓reduceIte, if_true, if_false, true_and, and_true, and_self, false_and, and_false, or_false, false_or, not_false_eq_true, not_true_eq_false, forall_const, true_implies, false_implies, implies_true, imp_self, eq_self, ne_eq, Nat.reduceAdd, Nat.reduceSub, Nat.reduceMul, Nat.reduceLeDiff, Nat.reduceEqDiff, Nat.zero_add, Nat.add_zero, Nat.le_refl, Nat.succ_ne_self, Nat.one_ne_zero, Nat.zero_ne_one, Int.toNat_natCast, litRow, List.drop_succ_cons, List.drop_zero, List.take_succ_cons, List.take_zero, pubE, pubV, pubL, pubO, eqS, eqB, Nat.reduceLT, Nat.not_lt_zero, Nat.sub_zero, decide_true, decide_false, true_or, or_true, Int.le_refl, Int.cast_ofNat_Int, Int.reduceToNat, Int.reduceLT, Int.reduceLE, beq_self_eq_true, Nat.mul_one, Nat.one_mul, Nat.zero_mul])
        | refine And.intro (fun h => ?_) (fun h => ?_)
        | refine And.intro (by first | omega | (simp only [maxLen, decide_eq_true_eq, decide_eq_false_iff_not] at *; omega)) ?_
        | refine And.intro rfl ?_
        | fail
    (refine RetK.pure (by simp only [rs22, ressS, resS, and_self]) (VLe.tups ?_); simp only [ressV, resV, Go.Bx.get, ↓reduceIte, eq_self, Nat.succ_ne_self])
    rw [he]; exact ⟨VLe.refl _, VLe.refl _, trivial⟩

/-! Dealt out. -/
def psums : Int → List Int → List Int
  | _, [] => []
  | n, p :: r => (n + p) :: psums (n + p) r
def deal2 (m S : Int) : Int → List Int → List Int
  | _, [] => []
  | d, s :: r => IntKind.i64.wrap ((downR m s S).1 - d) :: deal2 m S (downR m s S).1 r
def splitR (m : Int) (parts : List Int) : List Int × Int :=
  if m < 0 ∨ 2000 < parts.length then ([], 1)
  else if parts.any (fun p => decide (p < 0)) = true then ([], 1)
  else if 4000000000000000000 < parts.sum ∨ 4000000000000000000 < m then ([], 5)
  else if parts.sum = 0 then ([], 6)
  else (deal2 m parts.sum 0 (psums 0 parts), 0)
theorem psums_len : ∀ (l : List Int) (n : Int), (psums n l).length = l.length
  | [], _ => rfl
  | p :: r, n => by simp [psums, psums_len r]
theorem psums_snoc : ∀ (l : List Int) (n x : Int), psums n (l ++ [x]) = psums n l ++ [n + l.sum + x]
  | [], n, x => by simp [psums]
  | p :: r, n, x => by simp [psums, psums_snoc r]; omega
theorem psums_last {l : List Int} {n : Int} (h : 0 < l.length) : (psums n l).getD (l.length - 1) 0 = n + l.sum := by
  obtain ⟨r, x, rfl⟩ : ∃ r x, l = r ++ [x] := by
    cases l with
    | nil => simp at h
    | cons p r => exact ⟨(p :: r).dropLast, (p :: r).getLast (by simp), (List.dropLast_concat_getLast (by simp)).symm⟩
  rw [psums_snoc]
  simp [psums_len]
  omega
/-- What the runner says of one part more, and what it has added up then. -/
def runR (s p : Int) : (Int × Int) × Int :=
  if p < 0 then ((0, 1), s)
  else if IntKind.i64.wrap (s + p) > 4000000000000000000 ∨ IntKind.i64.wrap (s + p) < 0 then ((0, 5), 4000000000000000001)
  else ((IntKind.i64.wrap (s + p), 0), IntKind.i64.wrap (s + p))
theorem s33 (s p : Int) : Ctr Try.prog 33 [.d (.int .i64 p), .own 1 0] [(1, .fix [.d (.int .i64 s)])] (.tup [.d (.int .i64 (runR s p).1.1), .d (.int .i64 (runR s p).1.2)]) [(1, .fix [.d (.int .i64 (runR s p).2)])] [] := by
  refine own33 (by simp) rfl ?_
  intro c hP hfn
  simp only [c33, namesL, V.names, ownNames, vcC_seq, vcC_reg, vcC_skip, vcC_cond, vcC_ret, seqK_nrm, seqK_ret, nrmK_app, initE, vcR_nil, vcR_n, vcR_s, isCall, makes, hasU, newOf, opR, binI, pickV, evS, evV, evX, gOf, Go.Bx.get, Go.Bx.own?, cellsV, cut, nth, putV, St.stp, Ef.stp, lgs, setE, applyU, setO, newN, Option.getD_some, List.append_nil, List.nil_append, List.cons_append, List.length_cons, List.length_nil, List.mem_cons, List.not_mem_nil, Bool.true_and, Bool.false_eq_true, Bool.cond_true_left, reduceCtorEq, ↓reduceIte, true_and, and_true, and_self, or_false, not_false_eq_true, forall_const, implies_true, imp_self, eq_self, Nat.reduceEqDiff, Nat.zero_add, Nat.le_refl, Nat.succ_ne_self, Nat.zero_ne_one, or_true]
  refine ⟨fun h => ?_, fun h => ⟨fun h2 => ?_, fun h2 => ?_⟩⟩
  · have e : runR s p = ((0, 1), s) := by rw [runR, if_pos (of_decide_eq_true h)]
    rw [e]
    exact RetK.mk _ (Wk.refl _ _) (by simp only [rs33, ressS, resS, and_self]) (by simp only [rs33, retV, ressV, resV, Go.Bx.get, ↓reduceIte, eq_self, Nat.succ_ne_self, VLe_refl, Go.Bx.get, ↓reduceIte, eq_self, Nat.succ_ne_self]) (by simp only [OwnLe, OLe_refl, exists_eq_left', Option.some.injEq, Go.Bx.own?, ↓reduceIte, and_self, eq_self])
  · have h2' : IntKind.i64.wrap (s + p) > 4000000000000000000 ∨ IntKind.i64.wrap (s + p) < 0 := by simpa using h2
    have e : runR s p = ((0, 5), 4000000000000000001) := by rw [runR, if_neg (of_decide_eq_false h), if_pos h2']
    rw [e]
    exact RetK.mk _ (Wk.refl _ _) (by simp only [rs33, ressS, resS, and_self]) (by simp only [rs33, retV, ressV, resV, Go.Bx.get, ↓reduceIte, eq_self, Nat.succ_ne_self, VLe_refl, Go.Bx.get, ↓reduceIte, eq_self, Nat.succ_ne_self]) (by simp only [OwnLe, OLe_refl, exists_eq_left', Option.some.injEq, Go.Bx.own?, ↓reduceIte, and_self, eq_self])
  · have h2' : ¬ (IntKind.i64.wrap (s + p) > 4000000000000000000 ∨ IntKind.i64.wrap (s + p) < 0) := by simpa using h2
    have e : runR s p = ((IntKind.i64.wrap (s + p), 0), IntKind.i64.wrap (s + p)) := by rw [runR, if_neg (of_decide_eq_false h), if_neg h2']
    rw [e]
    exact RetK.mk _ (Wk.refl _ _) (by simp only [rs33, ressS, resS, and_self]) (by simp only [rs33, retV, ressV, resV, Go.Bx.get, ↓reduceIte, eq_self, Nat.succ_ne_self, VLe_refl, Go.Bx.get, ↓reduceIte, eq_self, Nat.succ_ne_self]) (by simp only [OwnLe, OLe_refl, exists_eq_left', Option.some.injEq, Go.Bx.own?, ↓reduceIte, and_self, eq_self])
theorem s28 : Ctr Try.prog 28 [] [] (.fn (.func 33) [] [.own 1 0]) [(1, .fix [.d (.int .i64 0)])] [1] := by
  refine own28 (by simp) rfl ?_
  intro c hP hfn
  simp only [c28, namesL, ownNames, vcC_seq, vcC_reg, vcC_ret, seqK_nrm, nrmK_app, initE, vcR_nil, vcR_n, isCall, makes, newOf, opR, evS, evV, evX, evSs, evVs, Go.Bx.get, Go.Bx.own?, cellsV, putV, St.stp, Ef.stp, lgs, setE, applyU, setO, newN, Option.getD_some, List.append_nil, List.length_cons, List.length_nil, List.mem_cons, List.not_mem_nil, Bool.false_eq_true, ↓reduceIte, true_and, and_self, or_false, not_false_eq_true, eq_self, Nat.zero_add, Nat.le_refl]
  exact RetK.mk _ (Wk.refl _ _) (by simp only [rs28, ressS, resS, and_self]) (by simp only [rs28, retV, resV, Go.Bx.get, ↓reduceIte, eq_self, VLe_refl, Go.Bx.get, ↓reduceIte, eq_self]) (by simp only [OwnLe, OLe_refl, exists_eq_left', Option.some.injEq, Go.Bx.own?, ↓reduceIte, and_self, eq_self])

structure SpI (m : Int) (l : List Int) (k : Nat) (dn : List Int) (s : Int) (over : Bool) : Prop where
  len : dn.length = k
  le : k ≤ l.length
  nn : ∀ x, x ∈ l.take k → 0 ≤ x
  st : ((l.take k).sum ≤ 4000000000000000000 ∧ s = (l.take k).sum ∧ dn = psums 0 (l.take k) ∧ over = decide (m > 4000000000000000000)) ∨ (4000000000000000000 < (l.take k).sum ∧ s = 4000000000000000001 ∧ over = true)
theorem sum_nonneg : ∀ {l : List Int}, (∀ x, x ∈ l → 0 ≤ x) → 0 ≤ l.sum
  | [], _ => by simp
  | p :: r, h => by
    have := h p (by simp)
    have ih := sum_nonneg (l := r) (fun x hx => h x (by simp [hx]))
    simp only [List.sum_cons]; omega
theorem spI_step {m : Int} {l : List Int} {k : Nat} {dn : List Int} {s : Int} {over : Bool} {x : Int} (h : SpI m l k dn s over) (hlt : k < l.length) (hat : l[k]? = some x) (hx : x ≤ 9223372036854775807) :
    ((runR s x).1.2 = 1 ∧ x < 0) ∨ (0 ≤ x ∧ (runR s x).1.2 ≠ 1 ∧ SpI m l (k + 1) (dn ++ [(runR s x).1.1]) (runR s x).2 (over || ((runR s x).1.2 == 5))) := by
  have ht : l.take (k + 1) = l.take k ++ [x] := by rw [List.take_add_one, hat]; rfl
  by_cases hneg : x < 0
  · left; rw [runR, if_pos hneg]; exact ⟨rfl, hneg⟩
  right
  have hs0 := sum_nonneg h.nn
  have hnn : ∀ y, y ∈ l.take (k + 1) → 0 ≤ y := by
    intro y hy
    rw [ht] at hy
    rcases List.mem_append.1 hy with hy | hy
    · exact h.nn y hy
    · simp at hy; omega
  have hsum : (l.take (k + 1)).sum = (l.take k).sum + x := by rw [ht]; simp
  rcases h.st with ⟨h1, h2, h3, h4⟩ | ⟨h1, h2, h3⟩
  · by_cases hov : 4000000000000000000 < (l.take k).sum + x
    · have hw : IntKind.i64.wrap (s + x) > 4000000000000000000 ∨ IntKind.i64.wrap (s + x) < 0 := by rw [IntKind.wrap_i64]; omega
      rw [runR, if_neg hneg, if_pos hw]
      exact ⟨by omega, by simp, ⟨by simp [h.len], hlt, hnn, .inr ⟨by omega, rfl, by simp⟩⟩⟩
    · have hw : IntKind.i64.wrap (s + x) = s + x := wI (by omega)
      rw [runR, if_neg hneg, hw, if_neg (by omega)]
      refine ⟨by omega, by simp, ⟨by simp [h.len], hlt, hnn, .inl ⟨by omega, by simp only; omega, ?_, by simp [h4]⟩⟩⟩
      rw [ht, psums_snoc, h3, h2]; simp
  · have hw : IntKind.i64.wrap (s + x) > 4000000000000000000 ∨ IntKind.i64.wrap (s + x) < 0 := by rw [IntKind.wrap_i64]; omega
    rw [runR, if_neg hneg, if_pos hw]
    exact ⟨by omega, by simp, ⟨by simp [h.len], hlt, hnn, .inr ⟨by omega, rfl, by simp⟩⟩⟩
theorem any_neg {l : List Int} {x : Int} (hx : x ∈ l) (h : x < 0) : l.any (fun p => decide (p < 0)) = true := by
  rw [List.any_eq_true]; exact ⟨x, hx, by simpa using h⟩
theorem any_nonneg {l : List Int} (h : ∀ x, x ∈ l → 0 ≤ x) : ¬ (l.any (fun p => decide (p < 0)) = true) := by
  rw [List.any_eq_true]; rintro ⟨x, hx, h2⟩; have := h x hx; simp at h2; omega
theorem psums_le {l : List Int} (h : ∀ x, x ∈ l → 0 ≤ x) : ∀ (n : Int), 0 ≤ n → ∀ s, s ∈ psums n l → 0 ≤ s ∧ s ≤ n + l.sum := by
  induction l with
  | nil => intro n _ s hs; simp [psums] at hs
  | cons p r ih =>
    intro n hn s hs
    have hp := h p (by simp)
    have hr := sum_nonneg (l := r) (fun x hx => h x (by simp [hx]))
    simp only [psums, List.mem_cons] at hs
    simp only [List.sum_cons]
    rcases hs with rfl | hs
    · omega
    · have := ih (fun x hx => h x (by simp [hx])) (n + p) (by omega) s hs
      omega
theorem s19 (m : Int) (l : List Int) (hm : m ≤ 9223372036854775807) (hl : l.length ≤ 9223372036854775807) (hx : ∀ x, x ∈ l → x ≤ 9223372036854775807) :
    Ctr Try.prog 19 [.d (.int .i64 m), .d (slK .i64 l)] [] (.tup [.d (slK .i64 (splitR m l).1), .d (.int .i64 (splitR m l).2)]) [] [] := by
  refine pure19 (by simp) rfl rfl ?_
  intro c hP hfn
  simp only [c19, vcC_seq, vcC_reg, vcC_skip, vcC_cond, vcC_ret, seqK_nrm, seqK_ret, nrmK_app, initE, vcR_nil, vcR_n, vcR_s, isCall, makes, hasU, slK, newOf, opR, binI, pickV, evS, evV, evX, gOf, Go.Bx.get, St.stp, Ef.stp, lgs, setE, applyU, newN, Option.getD_some, List.not_mem_nil, Bool.true_and, Bool.false_eq_true, Bool.cond_true_left, reduceCtorEq, ↓reduceIte, true_and, and_true, and_self, not_false_eq_true, forall_const, implies_true, imp_self, eq_self, Nat.reduceEqDiff, Nat.zero_add, Nat.succ_ne_self, Nat.zero_ne_one]
  refine ⟨fun h => ?_, fun h => ?_⟩
  · have h' : m < 0 ∨ 2000 < l.length := by simp only [Bool.or_eq_true, decide_eq_true_eq] at h; omega
    (refine RetK.pure (by simp only [rs19, ressS, resS, and_self]) (VLe.tups ?_); simp only [ressV, resV, Go.Bx.get, ↓reduceIte, eq_self, Nat.succ_ne_self])
    rw [splitR, if_pos h']; exact ⟨nilK, VLe.refl _, trivial⟩
  have h0 : ¬ (m < 0 ∨ 2000 < l.length) := by simp only [Bool.or_eq_false_iff, decide_eq_false_iff_not] at h; omega
  clear h
  refine TR.call [] [(1, .fix [.d (.int .i64 0)])] _ [1] (hP ▸ s28) (by repeat' first | exact trivial | (intro _; assumption) | apply And.intro) (by simp) (by simp [keysO]) (by simp) ?_
  simp only [vcC_seq, vcC_reg, vcC_block, seqK_nrm, nrmK_app, vcR_nil, vcR_n, isCall, makes, newOf, opR, binI, evS, evV, evX, Go.Bx.get, St.stp, Ef.stp, lgs, setE, applyU, setO, newN, callU, Option.getD_some, List.map_cons, List.map_nil, List.nil_append, List.mem_cons, List.not_mem_nil, Bool.false_eq_true, reduceCtorEq, ↓reduceIte, true_and, and_true, and_self, or_false, not_false_eq_true, eq_self, Nat.reduceEqDiff, Nat.succ_ne_self, Nat.zero_ne_one, Int.toNat_natCast, Int.le_refl, Int.reduceToNat]
  repeat' first
      | (first
          | refine TR.p hP (by first | fail) (by repeat' first | exact trivial | (intro _; assumption) | apply And.intro) ?_
          | refine TR.gp hP rfl (fun _ => by first | fail) (fun _ => by repeat' first | exact trivial | (intro _; assumption) | apply And.intro) ?_
          | refine TR.pv hP rfl (by first | fail) trivial (by repeat' first | exact trivial | (intro _; assumption) | apply And.intro) ?_
         try simp only [↓evSo_some, vcC_seq, vcC_reg, vcC_drw, vcC_skip, vcC_cond, vcC_block, vcC_exit, vcC_ret, vcC_bad, seqK_nrm, seqK_exit, seqK_ret, blkK_nrm, blkK_exit, blkK_ret, lopK_exit, lopK_ret, lopX_exit, lopX_ret, nrmK_app, drwK_app, initE, vcR_nil, vcR_n, vcR_s, isCall, makes, hasU, slK, newOf, opR, binI, pickV, evS, evV, evX, evSs, evVs, evParts, evPartsS, fillV, catV, gOf, Go.Bx.get, Go.Bx.own?, cellsV, isCell, cut, cutD, nth, nthD, dropV, takeV, dropD, takeDV, putV, toDs, St.stp, Ef.stp, Stp.lg, lgs, setE, applyU, setO, delO, newN, keysO, callU, Ef.bad, Option.getD_some, Option.getD_none, Option.map_some, Option.map_none, List.all_cons, List.all_nil, List.map_cons, List.map_nil, List.append_nil, List.nil_append, List.cons_append, List.length_cons, List.length_nil, List.mem_cons, List.not_mem_nil, Bool.and_true, Bool.true_and, Bool.and_self, Bool.not_true, Bool.not_false, Bool.or_self, Bool.or_false, Bool.false_or, Bool.false_eq_true, Bool.true_eq_false, Bool.cond_true_left, Bool.cond_false_right, cond_true, cond_false, reduceCtorEq, ↓reduceIte, if_true, if_false, true_and, and_true, and_self, false_and, and_false, or_false, false_or, not_false_eq_true, not_true_eq_false, forall_const, true_implies, false_implies, implies_true, imp_self, eq_self, ne_eq, Nat.reduceAdd, Nat.reduceSub, Nat.reduceMul, Nat.reduceLeDiff, Nat.reduceEqDiff, Nat.zero_add, Nat.add_zero, Nat.le_refl, Nat.succ_ne_self, Nat.one_ne_zero, Nat.zero_ne_one, Int.toNat_natCast, litRow, List.drop_succ_cons, List.drop_zero, List.take_succ_cons, List.take_zero, pubE, pubV, pubL, pubO, eqS, eqB, Nat.reduceLT, Nat.not_lt_zero, Nat.sub_zero, decide_true, decide_false, true_or, or_true, Int.le_refl, Int.cast_ofNat_Int, Int.reduceToNat, Int.reduceLT, Int.reduceLE, beq_self_eq_true, Nat.mul_one, Nat.one_mul, Nat.zero_mul])
      | refine And.intro (fun h => ?_) (fun h => ?_)
      | refine And.intro (by first | omega | (simp only [maxLen, decide_eq_true_eq, decide_eq_false_iff_not] at *; omega)) ?_
      | refine And.intro rfl ?_
      | fail
  refine vcC.loop (X := Nat × List Int × Int × Bool) (fun x => ⟨[(8, .osl 1000), (0, .d (.int .i64 m)), (6, .fn (.func 33) [] [.own 1 0]), (7, .d (.bool x.2.2.2)), (33, .d (slK .i64 l)), (34, .d (.int .i64 l.length)), (35, .d (.int .i64 x.1))],
        [(1000, .row 3 1 x.2.1.length (fun i => [.int .i64 (x.2.1.getD i 0)])), (1, .fix [.d (.int .i64 x.2.2.1)])], [1000, 1]⟩)
      (fun x => SpI m l x.1 x.2.1 x.2.2.1 x.2.2.2) (fun x => l.length - x.1) (0, [], 0, decide (m > 4000000000000000000)) ⟨rfl, Nat.zero_le _, by simp, .inl ⟨by simp, by simp, by simp [psums], rfl⟩⟩
      (Wk.snoc (k := 32) _ hfn rfl rfl rfl rfl (OLe.row rfl (fun i hi => absurd hi (Nat.not_lt_zero i))) (by (simp only [EnvLe, VLe_refl, slK, Go.Bx.get, reduceCtorEq, ↓reduceIte, and_self, eq_self, Nat.reduceEqDiff, Nat.succ_ne_self, Int.cast_ofNat_Int]) <;> (first | exact wS (by omega) | (rw [List.length_append]; exact wS (by omega)) | assumption)) (by simp only [OwnLe, OLe_refl, exists_eq_left', Option.some.injEq, Go.Bx.own?, ↓reduceIte, and_self, eq_self]) (by simp) (by simp only [EnvLe, VLe_refl, slK, Go.Bx.get, reduceCtorEq, ↓reduceIte, and_self, eq_self, Nat.reduceEqDiff, Nat.succ_ne_self, Int.cast_ofNat_Int]) (by simp only [OwnLe, OLe_refl, exists_eq_left', Option.some.injEq, Go.Bx.own?, setO, delO, List.length_nil, ↓reduceIte, and_self, eq_self, Nat.reduceEqDiff])) ?_
  rintro ⟨k, dn, s, over⟩ hk
  simp only at hk
  simp only [vcC_seq, vcC_reg, vcC_skip, vcC_cond, vcC_block, vcC_exit, vcC_ret, seqK_nrm, seqK_exit, seqK_ret, blkK_nrm, blkK_exit, blkK_ret, lopK_exit, nrmK_app, vcR_nil, vcR_n, vcR_s, isCall, makes, hasU, slK, newOf, opR, binI, pickV, evS, evV, evX, gOf, Go.Bx.get, Go.Bx.own?, cutD, nthD, St.stp, Ef.stp, lgs, setE, applyU, setO, newN, Option.getD_some, List.length_cons, List.length_nil, List.mem_cons, List.not_mem_nil, Bool.true_and, Bool.false_eq_true, Bool.cond_true_left, reduceCtorEq, ↓reduceIte, true_and, and_true, and_self, or_false, not_false_eq_true, forall_const, implies_true, imp_self, eq_self, Nat.reduceEqDiff, Nat.zero_add, Nat.le_refl, Nat.succ_ne_self, Int.toNat_natCast, Int.le_refl]
  refine ⟨fun h1 => ?_, fun h1 => ?_⟩
  · have hlt : k < l.length := by have := of_decide_eq_true h1; omega
    obtain ⟨x, hd, hg, hmx, hat⟩ := drop_at hlt
    have hst := spI_step hk hlt hat (hx x hmx)
    simp only [hg]
    repeat' first
        | (first
            | refine TR.p hP (by first | fail) (by repeat' first | exact trivial | (intro _; assumption) | apply And.intro) ?_
            | refine TR.gp hP rfl (fun _ => by first | fail) (fun _ => by repeat' first | exact trivial | (intro _; assumption) | apply And.intro) ?_
            | refine TR.pv hP rfl (by first | fail) trivial (by repeat' first | exact trivial | (intro _; assumption) | apply And.intro) ?_
           try simp only [↓evSo_some, vcC_seq, vcC_reg, vcC_drw, vcC_skip, vcC_cond, vcC_block, vcC_exit, vcC_ret, vcC_bad, seqK_nrm, seqK_exit, seqK_ret, blkK_nrm, blkK_exit, blkK_ret, lopK_exit, lopK_ret, lopX_exit, lopX_ret, nrmK_app, drwK_app, initE, vcR_nil, vcR_n, vcR_s, isCall, makes, hasU, slK, newOf, opR, binI, pickV, evS, evV, evX, evSs, evVs, evParts, evPartsS, fillV, catV, gOf, Go.Bx.get, Go.Bx.own?, cellsV, isCell, cut, cutD, nth, nthD, dropV, takeV, dropD, takeDV, putV, toDs, St.stp, Ef.stp, Stp.lg, lgs, setE, applyU, setO, delO, newN, keysO, callU, Ef.bad, Option.getD_some, Option.getD_none, Option.map_some, Option.map_none, List.all_cons, List.all_nil, List.map_cons, List.map_nil, List.append_nil, List.nil_append, List.cons_append, List.length_cons, List.length_nil, List.mem_cons, List.not_mem_nil, Bool.and_true, Bool.true_and, Bool.and_self, Bool.not_true, Bool.not_false, Bool.or_self, Bool.or_false, Bool.false_or, Bool.false_eq_true, Bool.true_eq_false, Bool.cond_true_left, Bool.cond_false_right, cond_true, cond_false, reduceCtorEq, ↓reduceIte, if_true, if_false, true_and, and_true, and_self, false_and, and_false, or_false, false_or, not_false_eq_true, not_true_eq_false, forall_const, true_implies, false_implies, implies_true, imp_self, eq_self, ne_eq, Nat.reduceAdd, Nat.reduceSub, Nat.reduceMul, Nat.reduceLeDiff, Nat.reduceEqDiff, Nat.zero_add, Nat.add_zero, Nat.le_refl, Nat.succ_ne_self, Nat.one_ne_zero, Nat.zero_ne_one, Int.toNat_natCast, litRow, List.drop_succ_cons, List.drop_zero, List.take_succ_cons, List.take_zero, pubE, pubV, pubL, pubO, eqS, eqB, Nat.reduceLT, Nat.not_lt_zero, Nat.sub_zero, decide_true, decide_false, true_or, or_true, Int.le_refl, Int.cast_ofNat_Int, Int.reduceToNat, Int.reduceLT, Int.reduceLE, beq_self_eq_true, Nat.mul_one, Nat.one_mul, Nat.zero_mul])
        | refine And.intro (fun h => ?_) (fun h => ?_)
        | refine And.intro (by first | omega | (simp only [maxLen, decide_eq_true_eq, decide_eq_false_iff_not] at *; omega)) ?_
        | refine And.intro rfl ?_
        | fail
    refine TR.cv1 hP rfl (s33 s x) trivial (by repeat' first | exact trivial | (intro _; assumption) | apply And.intro) (by simp only [Go.Bx.own?, ↓reduceIte, eq_self, Nat.reduceEqDiff]) ?_
    simp only [vcC_seq, vcC_reg, vcC_skip, vcC_cond, vcC_ret, seqK_nrm, seqK_ret, blkK_nrm, blkK_ret, lopK_ret, nrmK_app, vcR_nil, vcR_n, vcR_s, isCall, makes, hasU, newOf, opR, binI, pickV, evS, evV, evX, evSs, evVs, catV, gOf, Go.Bx.get, Go.Bx.own?, cellsV, nth, toDs, St.stp, Ef.stp, lgs, setE, applyU, setO, delO, newN, Option.getD_some, Option.map_some, List.append_nil, List.length_cons, List.length_nil, List.mem_cons, List.not_mem_nil, Bool.true_and, Bool.false_eq_true, Bool.cond_true_left, reduceCtorEq, ↓reduceIte, true_and, and_true, and_self, or_false, not_false_eq_true, forall_const, implies_true, imp_self, eq_self, Nat.reduceAdd, Nat.reduceEqDiff, Nat.zero_add, Nat.succ_ne_self, litRow, Nat.reduceLT, or_true, Nat.mul_one]
    have hdl := hk.len
    repeat' first
        | (first
            | refine TR.p hP (by first | fail) (by repeat' first | exact trivial | (intro _; assumption) | apply And.intro) ?_
            | refine TR.gp hP rfl (fun _ => by first | fail) (fun _ => by repeat' first | exact trivial | (intro _; assumption) | apply And.intro) ?_
            | refine TR.pv hP rfl (by first | fail) trivial (by repeat' first | exact trivial | (intro _; assumption) | apply And.intro) ?_
           try simp only [↓evSo_some, vcC_seq, vcC_reg, vcC_drw, vcC_skip, vcC_cond, vcC_block, vcC_exit, vcC_ret, vcC_bad, seqK_nrm, seqK_exit, seqK_ret, blkK_nrm, blkK_exit, blkK_ret, lopK_exit, lopK_ret, lopX_exit, lopX_ret, nrmK_app, drwK_app, initE, vcR_nil, vcR_n, vcR_s, isCall, makes, hasU, slK, newOf, opR, binI, pickV, evS, evV, evX, evSs, evVs, evParts, evPartsS, fillV, catV, gOf, Go.Bx.get, Go.Bx.own?, cellsV, isCell, cut, cutD, nth, nthD, dropV, takeV, dropD, takeDV, putV, toDs, St.stp, Ef.stp, Stp.lg, lgs, setE, applyU, setO, delO, newN, keysO, callU, Ef.bad, Option.getD_some, Option.getD_none, Option.map_some, Option.map_none, List.all_cons, List.all_nil, List.map_cons, List.map_nil, List.append_nil, List.nil_append, List.cons_append, List.length_cons, List.length_nil, List.mem_cons, List.not_mem_nil, Bool.and_true, Bool.true_and, Bool.and_self, Bool.not_true, Bool.not_false, Bool.or_self, Bool.or_false, Bool.false_or, Bool.false_eq_true, Bool.true_eq_false, Bool.cond_true_left, Bool.cond_false_right, cond_true, cond_false, reduceCtorEq, ↓reduceIte, if_true, if_false, true_and, and_true, and_self, false_and, and_false, or_false, false_or, not_false_eq_true, not_true_eq_false, forall_const, true_implies, false_implies, implies_true, imp_self, eq_self, ne_eq, Nat.reduceAdd, Nat.reduceSub, Nat.reduceMul, Nat.reduceLeDiff, Nat.reduceEqDiff, Nat.zero_add, Nat.add_zero, Nat.le_refl, Nat.succ_ne_self, Nat.one_ne_zero, Nat.zero_ne_one, Int.toNat_natCast, litRow, List.drop_succ_cons, List.drop_zero, List.take_succ_cons, List.take_zero, pubE, pubV, pubL, pubO, eqS, eqB, Nat.reduceLT, Nat.not_lt_zero, Nat.sub_zero, decide_true, decide_false, true_or, or_true, Int.le_refl, Int.cast_ofNat_Int, Int.reduceToNat, Int.reduceLT, Int.reduceLE, beq_self_eq_true, Nat.mul_one, Nat.one_mul, Nat.zero_mul])
        | refine And.intro (fun h => ?_) (fun h => ?_)
        | refine And.intro (by first | omega | (simp only [maxLen, decide_eq_true_eq] at *; omega)) ?_
        | refine And.intro rfl ?_
        | fail
    · have he : (runR s x).1.2 = 1 := eq_of_beq h
      have hneg : x < 0 := by rcases hst with h | h; exact h.2; exact absurd he h.2.1
      (refine RetK.pure (by simp only [rs19, ressS, resS, and_self]) (VLe.tups ?_); simp only [ressV, resV, Go.Bx.get, ↓reduceIte, eq_self, Nat.succ_ne_self])
      rw [splitR, if_neg h0, if_pos (any_neg hmx hneg), he]; exact ⟨nilK, VLe.refl _, trivial⟩
    · have hne : (runR s x).1.2 ≠ 1 := by simpa using h
      have hst2 : SpI m l (k + 1) (dn ++ [(runR s x).1.1]) (runR s x).2 (over || ((runR s x).1.2 == 5)) := by
        rcases hst with h | h
        · exact absurd h.1 hne
        · exact h.2.2
      exact lopK.on (k + 1, dn ++ [(runR s x).1.1], (runR s x).2, (over || ((runR s x).1.2 == 5))) hst2 (by simp only; omega) (Wk.snoc (k := 56) _ hfn rfl rfl rfl rfl (OLe.app1 (cells := fun n => [.int .i64 n]) (fun i hi => by simp only [if_pos hi]) (by simp)) (by (simp only [EnvLe, VLe_refl, VLe_int, Go.Bx.get, reduceCtorEq, ↓reduceIte, true_and, and_true, eq_self, Nat.reduceEqDiff, Nat.succ_ne_self]) <;> (first | exact wS (by omega) | (rw [List.length_append]; exact wS (by omega)) | assumption)) (by simp only [OwnLe, OLe_refl, exists_eq_left', Option.some.injEq, Go.Bx.own?, ↓reduceIte, and_self, eq_self]) (by simp) (by simp only [EnvLe, VLe_refl, Go.Bx.get, reduceCtorEq, ↓reduceIte, and_self, eq_self, Nat.reduceEqDiff, Nat.succ_ne_self]) (by simp only [OwnLe, OLe_refl, exists_eq_left', Option.some.injEq, Go.Bx.own?, setO, delO, ↓reduceIte, and_self, eq_self, Nat.reduceEqDiff]))
  have hkl : k = l.length := by have := of_decide_eq_false h1; have := hk.le; omega
  have hnn := hk.nn
  have hst := hk.st
  have hdl := hk.len
  rw [hkl, List.take_length] at hnn hst
  rw [hkl] at hdl
  clear hk h1
  refine ⟨fun h2 => ?_, fun h2 => ?_⟩
  · have h2' : 4000000000000000000 < l.sum ∨ 4000000000000000000 < m := by
      subst h2
      rcases hst with h | h
      · have := of_decide_eq_true h.2.2.2.symm; omega
      · omega
    (refine RetK.pure (by simp only [rs19, ressS, resS, and_self]) (VLe.tups ?_); simp only [ressV, resV, Go.Bx.get, ↓reduceIte, eq_self, Nat.succ_ne_self])
    rw [splitR, if_neg h0, if_neg (any_nonneg hnn), if_pos h2']; exact ⟨nilK, VLe.refl _, trivial⟩
  have hst : l.sum ≤ 4000000000000000000 ∧ dn = psums 0 l ∧ ¬ (m > 4000000000000000000) := by
    subst h2
    rcases hst with h | h
    · exact ⟨h.1, h.2.2.1, of_decide_eq_false h.2.2.2.symm⟩
    · cases h.2.2
  have h2' : ¬ (4000000000000000000 < l.sum ∨ 4000000000000000000 < m) := by omega
  have hS0 := sum_nonneg hnn
  have hbase : splitR m l = if l.sum = 0 then ([], 6) else (deal2 m l.sum 0 (psums 0 l), 0) := by
    rw [splitR, if_neg h0, if_neg (any_nonneg hnn), if_neg h2']
  have hlast : 0 < l.length → dn.getD (dn.length - 1) 0 = l.sum := fun h => by
    rw [hdl, hst.2.1, psums_last h]; omega
  have e1 : 0 < l.length → IntKind.i64.wrap ((dn.length : Int) - 1) = ((dn.length - 1 : Nat) : Int) := fun h => (wI (by omega)).trans (by omega)
  rcases Nat.eq_zero_or_pos l.length with hz | hpos
  · have hd0 : dn.length = 0 := by omega
    refine ⟨fun h => ?_, fun h => ?_, fun h => ?_, fun h => ?_⟩
    · exfalso; simp [hd0] at h
    · exfalso; simp [hd0] at h
    · have hl0 : l = [] := List.eq_nil_of_length_eq_zero hz
      (refine RetK.pure (by simp only [rs19, ressS, resS, and_self]) (VLe.tups ?_); simp only [ressV, resV, Go.Bx.get, ↓reduceIte, eq_self, Nat.succ_ne_self])
      rw [hbase, if_pos (by rw [hl0]; rfl)]; exact ⟨nilK, VLe.refl _, trivial⟩
    · exfalso; simp [hd0] at h
  simp only [e1 hpos, Int.toNat_natCast, hlast hpos]
  refine ⟨fun _ => ⟨by omega, by omega⟩, fun _ => by omega, fun h => ?_, fun h => ?_⟩
  · have h' : l.sum = 0 := by
      simp only [Bool.or_eq_true, beq_iff_eq] at h; omega
    (refine RetK.pure (by simp only [rs19, ressS, resS, and_self]) (VLe.tups ?_); simp only [ressV, resV, Go.Bx.get, ↓reduceIte, eq_self, Nat.succ_ne_self])
    rw [hbase, if_pos h']; exact ⟨nilK, VLe.refl _, trivial⟩
  have hSn : ¬ l.sum = 0 := by
    simp only [Bool.or_eq_false_iff, beq_eq_false_iff_ne, ne_eq] at h; exact h.2
  clear h
  rw [if_neg hSn] at hbase
  repeat' first
      | (first
          | refine TR.p hP (by first | fail) (by repeat' first | exact trivial | (intro _; assumption) | apply And.intro) ?_
          | refine TR.gp hP rfl (fun _ => by first | fail) (fun _ => by repeat' first | exact trivial | (intro _; assumption) | apply And.intro) ?_
          | refine TR.pv hP rfl (by first | fail) trivial (by repeat' first | exact trivial | (intro _; assumption) | apply And.intro) ?_
         try simp only [e1 hpos, Int.toNat_natCast, hlast hpos, ↓evSo_some, vcC_seq, vcC_reg, vcC_drw, vcC_skip, vcC_cond, vcC_block, vcC_exit, vcC_ret, vcC_bad, seqK_nrm, seqK_exit, seqK_ret, blkK_nrm, blkK_exit, blkK_ret, lopK_exit, lopK_ret, lopX_exit, lopX_ret, nrmK_app, drwK_app, initE, vcR_nil, vcR_n, vcR_s, isCall, makes, hasU, slK, newOf, opR, binI, pickV, evS, evV, evX, evSs, evVs, evParts, evPartsS, fillV, catV, gOf, Go.Bx.get, Go.Bx.own?, cellsV, isCell, cut, cutD, nth, nthD, dropV, takeV, dropD, takeDV, putV, toDs, St.stp, Ef.stp, Stp.lg, lgs, setE, applyU, setO, delO, newN, keysO, callU, Ef.bad, Option.getD_some, Option.getD_none, Option.map_some, Option.map_none, List.all_cons, List.all_nil, List.map_cons, List.map_nil, List.append_nil, List.nil_append, List.cons_append, List.length_cons, List.length_nil, List.mem_cons, List.not_mem_nil, Bool.and_true, Bool.true_and, Bool.and_self, Bool.not_true, Bool.not_false, Bool.or_self, Bool.or_false, Bool.false_or, Bool.false_eq_true, Bool.true_eq_false, Bool.cond_true_left, Bool.cond_false_right, cond_true, cond_false, reduceCtorEq, ↓reduceIte, if_true, if_false, true_and, and_true, and_self, false_and, and_false, or_false, false_or, not_false_eq_true, not_true_eq_false, forall_const, true_implies, false_implies, implies_true, imp_self, eq_self, ne_eq, Nat.reduceAdd, Nat.reduceSub, Nat.reduceMul, Nat.reduceLeDiff, Nat.reduceEqDiff, Nat.zero_add, Nat.add_zero, Nat.le_refl, Nat.succ_ne_self, Nat.one_ne_zero, Nat.zero_ne_one, Int.toNat_natCast, litRow, List.drop_succ_cons, List.drop_zero, List.take_succ_cons, List.take_zero, pubE, pubV, pubL, pubO, eqS, eqB, Nat.reduceLT, Nat.not_lt_zero, Nat.sub_zero, decide_true, decide_false, true_or, or_true, Int.le_refl, Int.cast_ofNat_Int, Int.reduceToNat, Int.reduceLT, Int.reduceLE, beq_self_eq_true, Nat.mul_one, Nat.one_mul, Nat.zero_mul])
      | refine And.intro (fun h => ?_) (fun h => ?_)
      | refine And.intro (by first | omega | (simp only [maxLen, decide_eq_true_eq, decide_eq_false_iff_not] at *; omega)) ?_
      | refine And.intro rfl ?_
      | fail
  refine vcC.loop (X := List Int × Int) (fun x => ⟨[(0, .d (.int .i64 m)), (13, .d (.int .i64 l.sum)), (14, .osl 81), (15, .d (.int .i64 x.2)), (82, .osl 1000), (83, .d (.int .i64 dn.length)), (84, .d (.int .i64 x.1.length))],
        [(1000, .row 3 1 dn.length (fun i => [.int .i64 (dn.getD i 0)])), (81, .row 3 1 dn.length (fun i => [.int .i64 (x.1.getD i 0)]))], [1000, 81]⟩)
      (fun x => x.1.length ≤ dn.length ∧ deal2 m l.sum 0 dn = x.1 ++ deal2 m l.sum x.2 (dn.drop x.1.length)) (fun x => dn.length - x.1.length) ([], 0) ⟨Nat.zero_le _, rfl⟩
      (Wk.of _ hfn rfl (by simp only [EnvLe, VLe_refl, Go.Bx.get, List.length_nil, reduceCtorEq, ↓reduceIte, and_self, eq_self, Nat.reduceEqDiff, Nat.succ_ne_self, Int.cast_ofNat_Int]) (by simp only [OwnLe, OLe_refl, exists_eq_left', Option.some.injEq, Go.Bx.own?, ↓reduceIte, true_and, and_true, eq_self, Nat.reduceEqDiff]; exact OLe.row rfl fun i _ => by simp)) ?_
  rintro ⟨out, dealt⟩ ⟨hk, he⟩
  simp only at hk he
  simp only [vcC_seq, vcC_reg, vcC_skip, vcC_cond, vcC_block, vcC_exit, vcC_ret, seqK_nrm, seqK_exit, blkK_exit, lopK_exit, nrmK_app, vcR_nil, vcR_n, isCall, makes, newOf, opR, binI, evS, evV, evX, Go.Bx.get, Go.Bx.own?, cutD, nthD, St.stp, Ef.stp, lgs, setE, applyU, newN, Bool.false_eq_true, reduceCtorEq, ↓reduceIte, true_and, and_true, and_self, eq_self, Nat.reduceEqDiff, Nat.zero_add, Nat.le_refl, Nat.succ_ne_self, Int.toNat_natCast]
  refine ⟨fun h1 => ?_, fun h1 => ?_⟩
  · have hlt : out.length < dn.length := by have := of_decide_eq_true h1; omega
    obtain ⟨x, hd, hg, hmx, hat⟩ := drop_at hlt
    have hxb := psums_le hnn 0 (by omega) x (by rw [← hst.2.1]; exact hmx)
    rw [hd, deal2] at he
    simp only [hg]
    repeat' first
        | (first
            | refine TR.p hP (by first | exact s12 m x l.sum hm (by omega) (by omega)) (by repeat' first | exact trivial | (intro _; assumption) | apply And.intro) ?_
            | refine TR.gp hP rfl (fun _ => by first | exact s12 m x l.sum hm (by omega) (by omega)) (fun _ => by repeat' first | exact trivial | (intro _; assumption) | apply And.intro) ?_
            | refine TR.pv hP rfl (by first | exact s12 m x l.sum hm (by omega) (by omega)) trivial (by repeat' first | exact trivial | (intro _; assumption) | apply And.intro) ?_
           try simp only [vcC_reg, seqK_nrm, blkK_nrm, nrmK_app, vcR_nil, vcR_n, isCall, makes, newOf, opR, binI, evS, evV, evX, Go.Bx.get, Go.Bx.own?, cellsV, nth, toDs, St.stp, Ef.stp, lgs, setE, applyU, setO, newN, Option.map_some, List.length_cons, List.length_nil, List.mem_cons, List.not_mem_nil, Bool.false_eq_true, reduceCtorEq, ↓reduceIte, true_and, and_true, and_self, or_false, eq_self, Nat.reduceAdd, Nat.reduceEqDiff, Nat.zero_add, Nat.le_refl, Nat.succ_ne_self, Int.toNat_natCast, Nat.reduceLT, or_true])
        | refine And.intro (fun h => ?_) (fun h => ?_)
        | refine And.intro (by first | omega | (simp only [maxLen, decide_eq_true_eq, decide_eq_false_iff_not] at *; omega)) ?_
        | refine And.intro rfl ?_
        | fail
    exact lopK.on (out ++ [IntKind.i64.wrap ((downR m x l.sum).1 - dealt)], (downR m x l.sum).1) ⟨by simp; omega, by rw [he]; simp⟩ (by simp; omega) (Wk.of _ hfn rfl (by (simp only [EnvLe, VLe_refl, VLe_int, Go.Bx.get, reduceCtorEq, ↓reduceIte, true_and, and_true, eq_self, Nat.reduceEqDiff, Nat.succ_ne_self]) <;> (first | exact wS (by omega) | (rw [List.length_append]; exact wS (by omega)) | assumption)) (by simp only [OwnLe, OLe_refl, exists_eq_left', Option.some.injEq, Go.Bx.own?, ↓reduceIte, true_and, and_true, eq_self, Nat.reduceEqDiff]; exact OLe.snoc))
  · have hkl : out.length = dn.length := by have := of_decide_eq_false h1; omega
    rw [hkl, List.drop_length, deal2, List.append_nil] at he
    repeat' first
        | (first
            | refine TR.p hP (by first | fail) (by repeat' first | exact trivial | (intro _; assumption) | apply And.intro) ?_
            | refine TR.gp hP rfl (fun _ => by first | fail) (fun _ => by repeat' first | exact trivial | (intro _; assumption) | apply And.intro) ?_
            | refine TR.pv hP rfl (by first | fail) trivial (by repeat' first | exact trivial | (intro _; assumption) | apply And.intro) ?_
           try simp only [↓evSo_some, vcC_seq, vcC_reg, vcC_drw, vcC_skip, vcC_cond, vcC_block, vcC_exit, vcC_ret, vcC_bad, seqK_nrm, seqK_exit, seqK_ret, blkK_nrm, blkK_exit, blkK_ret, lopK_exit, lopK_ret, lopX_exit, lopX_ret, nrmK_app, drwK_app, initE, vcR_nil, vcR_n, vcR_s, isCall, makes, hasU, slK, newOf, opR, binI, pickV, evS, evV, evX, evSs, evVs, evParts, evPartsS, fillV, catV, gOf, Go.Bx.get, Go.Bx.own?, cellsV, isCell, cut, cutD, nth, nthD, dropV, takeV, dropD, takeDV, putV, toDs, St.stp, Ef.stp, Stp.lg, lgs, setE, applyU, setO, delO, newN, keysO, callU, Ef.bad, Option.getD_some, Option.getD_none, Option.map_some, Option.map_none, List.all_cons, List.all_nil, List.map_cons, List.map_nil, List.append_nil, List.nil_append, List.cons_append, List.length_cons, List.length_nil, List.mem_cons, List.not_mem_nil, Bool.and_true, Bool.true_and, Bool.and_self, Bool.not_true, Bool.not_false, Bool.or_self, Bool.or_false, Bool.false_or, Bool.false_eq_true, Bool.true_eq_false, Bool.cond_true_left, Bool.cond_false_right, cond_true, cond_false, reduceCtorEq, ↓reduceIte, if_true, if_false, true_and, and_true, and_self, false_and, and_false, or_false, false_or, not_false_eq_true, not_true_eq_false, forall_const, true_implies, false_implies, implies_true, imp_self, eq_self, ne_eq, Nat.reduceAdd, Nat.reduceSub, Nat.reduceMul, Nat.reduceLeDiff, Nat.reduceEqDiff, Nat.zero_add, Nat.add_zero, Nat.le_refl, Nat.succ_ne_self, Nat.one_ne_zero, Nat.zero_ne_one, Int.toNat_natCast, litRow, List.drop_succ_cons, List.drop_zero, List.take_succ_cons, List.take_zero, pubE, pubV, pubL, pubO, eqS, eqB, Nat.reduceLT, Nat.not_lt_zero, Nat.sub_zero, decide_true, decide_false, true_or, or_true, Int.le_refl, Int.cast_ofNat_Int, Int.reduceToNat, Int.reduceLT, Int.reduceLE, beq_self_eq_true, Nat.mul_one, Nat.one_mul, Nat.zero_mul])
        | refine And.intro (fun h => ?_) (fun h => ?_)
        | refine And.intro (by first | omega | (simp only [maxLen, decide_eq_true_eq, decide_eq_false_iff_not] at *; omega)) ?_
        | refine And.intro rfl ?_
        | fail
    refine RetK.mk _ (Wk.pub 81 rfl) (by simp only [rs19, ressS, resS, delO, ↓reduceIte, and_self, eq_self, Nat.reduceEqDiff, pubE, pubV, pubO]) ?_ trivial
    simp only [rs19, retV, ressV, resV, Go.Bx.get, ↓reduceIte, eq_self, Nat.reduceEqDiff, Nat.succ_ne_self, pubE, pubV]
    rw [hbase, ← hst.2.1, he]
    exact VLe.tups ⟨VLe.sl hkl.symm (fun _ => rfl) id fun i hi => rfl, VLe.refl _, trivial⟩

theorem sumQ_eq : ∀ (l : List Int) (n : Int), (∀ x, x ∈ l → 0 ≤ x ∧ x ≤ 9223372036854775807) → 0 ≤ n → n ≤ 4000000000000000000 →
    sumQ n l = if 4000000000000000000 < n + l.sum then (0, false) else (n + l.sum, true)
  | [], n, _, h0, h1 => by rw [sumQ]; simp; omega
  | p :: r, n, h, h0, h1 => by
    have hp := h p (by simp)
    have hr := sum_nonneg (l := r) (fun x hx => (h x (by simp [hx])).1)
    rw [sumQ, wI (a := 4000000000000000000 - n) (by omega), List.sum_cons]
    by_cases h2 : p > 4000000000000000000 - n
    · rw [if_pos h2, if_pos (by omega)]
    · rw [if_neg h2, wI (by omega), sumQ_eq r (n + p) (fun x hx => h x (by simp [hx])) (by omega) (by omega), Int.add_assoc]
theorem s20 (m : Int) (l : List Int) (hm : m ≤ 9223372036854775807) (hl : l.length ≤ 9223372036854775807) (hx : ∀ x, x ∈ l → x ≤ 9223372036854775807) :
    Ctr Try.prog 20 [.d (.int .i64 m), .d (slK .i64 l)] [] (.tup [.d (slK .i64 (splitR m l).1), .d (.int .i64 (splitR m l).2)]) [] [] := by
  refine pure20 (by simp) rfl rfl ?_
  intro c hP hfn
  simp only [c20, vcC_seq, vcC_reg, vcC_skip, vcC_cond, vcC_block, vcC_ret, seqK_nrm, seqK_ret, nrmK_app, initE, vcR_nil, vcR_n, vcR_s, isCall, makes, hasU, slK, newOf, opR, binI, pickV, evS, evV, evX, gOf, Go.Bx.get, St.stp, Ef.stp, lgs, setE, applyU, newN, Option.getD_some, List.not_mem_nil, Bool.true_and, Bool.false_eq_true, Bool.cond_true_left, reduceCtorEq, ↓reduceIte, true_and, and_true, and_self, not_false_eq_true, forall_const, implies_true, imp_self, eq_self, Nat.reduceEqDiff, Nat.zero_add, Nat.succ_ne_self, Nat.zero_ne_one]
  refine ⟨fun h => ?_, fun h => ?_⟩
  · have h' : m < 0 ∨ 2000 < l.length := by simp only [Bool.or_eq_true, decide_eq_true_eq] at h; omega
    (refine RetK.pure (by simp only [rs20, ressS, resS, and_self]) (VLe.tups ?_); simp only [ressV, resV, Go.Bx.get, ↓reduceIte, eq_self, Nat.succ_ne_self])
    rw [splitR, if_pos h']; exact ⟨nilK, VLe.refl _, trivial⟩
  have h0 : ¬ (m < 0 ∨ 2000 < l.length) := by simp only [Bool.or_eq_false_iff, decide_eq_false_iff_not] at h; omega
  clear h
  refine vcC.loop (X := Nat) (fun k => ⟨[(0, .d (.int .i64 m)), (1, .d (slK .i64 l)), (6, .d (.int .i64 k))], [], []⟩)
    (fun k => k ≤ l.length ∧ ∀ x, x ∈ l.take k → 0 ≤ x) (fun k => l.length - k) 0 ⟨Nat.zero_le _, by simp⟩ (Wk.of [] hfn rfl (by (simp only [EnvLe, VLe_refl, slK, Go.Bx.get, reduceCtorEq, ↓reduceIte, and_self, eq_self, Nat.reduceEqDiff, Nat.zero_ne_one, Int.cast_ofNat_Int]) <;> (first | exact wS (by omega) | (rw [List.length_append]; exact wS (by omega)) | assumption)) (by simp only [OwnLe])) ?_
  rintro k ⟨hk, hnn⟩
  simp only [vcC_seq, vcC_reg, vcC_skip, vcC_cond, vcC_block, vcC_exit, vcC_ret, seqK_nrm, seqK_exit, seqK_ret, blkK_nrm, blkK_exit, blkK_ret, lopK_exit, lopK_ret, nrmK_app, vcR_nil, vcR_n, isCall, makes, slK, newOf, opR, binI, evS, evV, evX, Go.Bx.get, cutD, nthD, St.stp, Ef.stp, lgs, setE, applyU, newN, List.length_cons, List.length_nil, Bool.false_eq_true, reduceCtorEq, ↓reduceIte, true_and, and_true, and_self, eq_self, Nat.reduceEqDiff, Nat.zero_add, Nat.le_refl, Nat.succ_ne_self, Nat.zero_ne_one, Int.toNat_natCast]
  refine ⟨fun h1 => ?_, fun h1 => ?_⟩
  · have hlt : k < l.length := by have := of_decide_eq_true h1; omega
    obtain ⟨x, hd, hg, hmx, hat⟩ := drop_at hlt
    simp only [hg]
    repeat' first
        | (first
            | refine TR.p hP (by first | fail) (by repeat' first | exact trivial | (intro _; assumption) | apply And.intro) ?_
            | refine TR.gp hP rfl (fun _ => by first | fail) (fun _ => by repeat' first | exact trivial | (intro _; assumption) | apply And.intro) ?_
            | refine TR.pv hP rfl (by first | fail) trivial (by repeat' first | exact trivial | (intro _; assumption) | apply And.intro) ?_
           try simp only [↓evSo_some, vcC_seq, vcC_reg, vcC_drw, vcC_skip, vcC_cond, vcC_block, vcC_exit, vcC_ret, vcC_bad, seqK_nrm, seqK_exit, seqK_ret, blkK_nrm, blkK_exit, blkK_ret, lopK_exit, lopK_ret, lopX_exit, lopX_ret, nrmK_app, drwK_app, initE, vcR_nil, vcR_n, vcR_s, isCall, makes, hasU, slK, newOf, opR, binI, pickV, evS, evV, evX, evSs, evVs, evParts, evPartsS, fillV, catV, gOf, Go.Bx.get, Go.Bx.own?, cellsV, isCell, cut, cutD, nth, nthD, dropV, takeV, dropD, takeDV, putV, toDs, St.stp, Ef.stp, Stp.lg, lgs, setE, applyU, setO, delO, newN, keysO, callU, Ef.bad, Option.getD_some, Option.getD_none, Option.map_some, Option.map_none, List.all_cons, List.all_nil, List.map_cons, List.map_nil, List.append_nil, List.nil_append, List.cons_append, List.length_cons, List.length_nil, List.mem_cons, List.not_mem_nil, Bool.and_true, Bool.true_and, Bool.and_self, Bool.not_true, Bool.not_false, Bool.or_self, Bool.or_false, Bool.false_or, Bool.false_eq_true, Bool.true_eq_false, Bool.cond_true_left, Bool.cond_false_right, cond_true, cond_false, reduceCtorEq, ↓reduceIte, if_true, if_false, true_and, and_true, and_self, false_and, and_false, or_false, false_or, not_false_eq_true, not_true_eq_false, forall_const, true_implies, false_implies, implies_true, imp_self, eq_self, ne_eq, Nat.reduceAdd, Nat.reduceSub, Nat.reduceMul, Nat.reduceLeDiff, Nat.reduceEqDiff, Nat.zero_add, Nat.add_zero, Nat.le_refl, Nat.succ_ne_self, Nat.one_ne_zero, Nat.zero_ne_one, Int.toNat_natCast, litRow, List.drop_succ_cons, List.drop_zero, List.take_succ_cons, List.take_zero, pubE, pubV, pubL, pubO, eqS, eqB, Nat.reduceLT, Nat.not_lt_zero, Nat.sub_zero, decide_true, decide_false, true_or, or_true, Int.le_refl, Int.cast_ofNat_Int, Int.reduceToNat, Int.reduceLT, Int.reduceLE, beq_self_eq_true, Nat.mul_one, Nat.one_mul, Nat.zero_mul])
        | refine And.intro (fun h => ?_) (fun h => ?_)
        | refine And.intro (by first | omega | (simp only [maxLen, decide_eq_true_eq, decide_eq_false_iff_not] at *; omega)) ?_
        | refine And.intro rfl ?_
        | fail
    · (refine RetK.pure (by simp only [rs20, ressS, resS, and_self]) (VLe.tups ?_); simp only [ressV, resV, Go.Bx.get, ↓reduceIte, eq_self, Nat.succ_ne_self])
      rw [splitR, if_neg h0, if_pos (any_neg hmx (of_decide_eq_true h))]; exact ⟨nilK, VLe.refl _, trivial⟩
    · refine lopK.on (k + 1) ⟨hlt, ?_⟩ (by omega) (Wk.of [] hfn rfl (by (simp only [EnvLe, VLe_refl, VLe_int, Go.Bx.get, reduceCtorEq, ↓reduceIte, true_and, and_true, eq_self, Nat.reduceEqDiff, Nat.zero_ne_one]) <;> (first | exact wS (by omega) | (rw [List.length_append]; exact wS (by omega)) | assumption)) (by simp only [OwnLe]))
      intro y hy
      rw [List.take_add_one, hat] at hy
      rcases List.mem_append.1 hy with hy | hy
      · exact hnn y hy
      · simp at hy; have := of_decide_eq_false h; omega
  have hkl : k = l.length := by have := of_decide_eq_false h1; omega
  rw [hkl, List.take_length] at hnn
  clear h1 hk hkl
  have hS0 := sum_nonneg hnn
  have hsq := sumQ_eq l 0 (fun x h => ⟨hnn x h, hx x h⟩) (by omega) (by omega)
  rw [Int.zero_add] at hsq
  have c22 := s22 l hl
  by_cases hov : 4000000000000000000 < l.sum
  · rw [hsq, if_pos hov] at c22
    repeat' first
        | (first
            | refine TR.p hP (by first | exact c22) (by repeat' first | exact trivial | (intro _; assumption) | apply And.intro) ?_
            | refine TR.gp hP rfl (fun _ => by first | exact c22) (fun _ => by repeat' first | exact trivial | (intro _; assumption) | apply And.intro) ?_
            | refine TR.pv hP rfl (by first | exact c22) trivial (by repeat' first | exact trivial | (intro _; assumption) | apply And.intro) ?_
           try simp only [vcC_seq, vcC_reg, vcC_skip, vcC_cond, vcC_block, vcC_ret, seqK_nrm, seqK_ret, nrmK_app, vcR_nil, vcR_n, vcR_s, isCall, makes, hasU, newOf, opR, binI, pickV, evS, evV, evX, gOf, Go.Bx.get, nth, St.stp, Ef.stp, lgs, setE, applyU, newN, Option.getD_some, List.length_cons, List.length_nil, List.not_mem_nil, Bool.true_and, Bool.not_true, Bool.not_false, Bool.false_eq_true, Bool.true_eq_false, cond_true, reduceCtorEq, ↓reduceIte, true_and, and_true, and_self, not_false_eq_true, forall_const, false_implies, implies_true, imp_self, eq_self, Nat.reduceAdd, Nat.reduceEqDiff, Nat.zero_add, Nat.succ_ne_self, Nat.reduceLT, beq_self_eq_true])
        | refine And.intro (fun h => ?_) (fun h => ?_)
        | refine And.intro (by first | omega | (simp only [maxLen, decide_eq_true_eq, decide_eq_false_iff_not] at *; omega)) ?_
        | refine And.intro rfl ?_
        | fail
    (refine RetK.pure (by simp only [rs20, ressS, resS, and_self]) (VLe.tups ?_); simp only [ressV, resV, Go.Bx.get, ↓reduceIte, eq_self, Nat.succ_ne_self])
    rw [splitR, if_neg h0, if_neg (any_nonneg hnn), if_pos (.inl hov)]; exact ⟨nilK, VLe.refl _, trivial⟩
  rw [hsq, if_neg hov] at c22
  repeat' first
      | (first
          | refine TR.p hP (by first | exact c22) (by repeat' first | exact trivial | (intro _; assumption) | apply And.intro) ?_
          | refine TR.gp hP rfl (fun _ => by first | exact c22) (fun _ => by repeat' first | exact trivial | (intro _; assumption) | apply And.intro) ?_
          | refine TR.pv hP rfl (by first | exact c22) trivial (by repeat' first | exact trivial | (intro _; assumption) | apply And.intro) ?_
         try simp only [vcC_seq, vcC_reg, vcC_skip, vcC_cond, vcC_block, vcC_ret, seqK_nrm, seqK_ret, nrmK_app, vcR_nil, vcR_n, vcR_s, isCall, makes, hasU, newOf, opR, binI, pickV, evS, evV, evX, gOf, Go.Bx.get, nth, St.stp, Ef.stp, lgs, setE, applyU, newN, Option.getD_some, List.length_cons, List.length_nil, List.not_mem_nil, Bool.and_self, Bool.not_true, Bool.not_false, Bool.false_eq_true, cond_false, reduceCtorEq, ↓reduceIte, true_and, and_self, not_false_eq_true, forall_const, implies_true, eq_self, Nat.reduceAdd, Nat.reduceEqDiff, Nat.zero_add, Nat.succ_ne_self, Nat.reduceLT])
      | refine And.intro (fun h => ?_) (fun h => ?_)
      | refine And.intro (by first | omega | (simp only [maxLen, decide_eq_true_eq, decide_eq_false_iff_not] at *; omega)) ?_
      | refine And.intro rfl ?_
      | fail
  · have h' : 4000000000000000000 < l.sum ∨ 4000000000000000000 < m := .inr (by have := of_decide_eq_true h; omega)
    (refine RetK.pure (by simp only [rs20, ressS, resS, and_self]) (VLe.tups ?_); simp only [ressV, resV, Go.Bx.get, ↓reduceIte, eq_self, Nat.succ_ne_self])
    rw [splitR, if_neg h0, if_neg (any_nonneg hnn), if_pos h']; exact ⟨nilK, VLe.refl _, trivial⟩
  · rename_i hm4
    have h' : ¬ (4000000000000000000 < l.sum ∨ 4000000000000000000 < m) := by have := of_decide_eq_false hm4; omega
    have h2 : l.sum = 0 := by simpa using h
    (refine RetK.pure (by simp only [rs20, ressS, resS, and_self]) (VLe.tups ?_); simp only [ressV, resV, Go.Bx.get, ↓reduceIte, eq_self, Nat.succ_ne_self])
    rw [splitR, if_neg h0, if_neg (any_nonneg hnn), if_neg h', if_pos h2]; exact ⟨nilK, VLe.refl _, trivial⟩
  rename_i hm4
  have h' : ¬ (4000000000000000000 < l.sum ∨ 4000000000000000000 < m) := by have := of_decide_eq_false hm4; omega
  have h2 : ¬ l.sum = 0 := by simpa using h
  have hbase : splitR m l = (deal2 m l.sum 0 (psums 0 l), 0) := by
    rw [splitR, if_neg h0, if_neg (any_nonneg hnn), if_neg h', if_neg h2]
  clear h hm4
  refine vcC.loop (X := List Int × Int × Int) (fun x => ⟨[(9, .osl 1000), (0, .d (.int .i64 m)), (1, .d (slK .i64 l)), (7, .d (.int .i64 l.sum)), (10, .d (.int .i64 x.2.1)), (11, .d (.int .i64 x.2.2)), (12, .d (.int .i64 x.1.length))],
        [(1000, .row 3 1 x.1.length (fun i => [.int .i64 (x.1.getD i 0)]))], [1000]⟩)
      (fun x => x.1.length ≤ l.length ∧ (0 ≤ x.2.1 ∧ x.2.1 + (l.drop x.1.length).sum = l.sum) ∧ deal2 m l.sum 0 (psums 0 l) = x.1 ++ deal2 m l.sum x.2.2 (psums x.2.1 (l.drop x.1.length))) (fun x => l.length - x.1.length) ([], 0, 0) ⟨Nat.zero_le _, ⟨by simp, by simp⟩, rfl⟩ ((Wk.row0 (s := 9) (k := 1000) (e := 3) (sz := 1) (f' := fun _ => []) rfl rfl (by simp)).trans (Wk.of _ hfn rfl (by (simp only [EnvLe, VLe_refl, slK, Go.Bx.get, List.length_nil, reduceCtorEq, ↓reduceIte, and_self, eq_self, Nat.reduceEqDiff, Nat.succ_ne_self, Nat.zero_ne_one, Int.cast_ofNat_Int]) <;> (first | exact wS (by omega) | (rw [List.length_append]; exact wS (by omega)) | assumption)) (by simp only [OwnLe, exists_eq_left', Option.some.injEq, Go.Bx.own?, setO, List.length_nil, ↓reduceIte, and_true, eq_self]; exact OLe.row rfl (fun i hi => absurd hi (Nat.not_lt_zero i))))) ?_
  rintro ⟨out, run, ah⟩ ⟨hk, hr, he⟩
  simp only at hk hr he
  simp only [vcC_seq, vcC_reg, vcC_skip, vcC_cond, vcC_block, vcC_exit, vcC_ret, seqK_nrm, seqK_exit, blkK_exit, lopK_exit, nrmK_app, vcR_nil, vcR_n, isCall, makes, slK, newOf, opR, binI, evS, evV, evX, Go.Bx.get, cutD, nthD, St.stp, Ef.stp, lgs, setE, applyU, newN, List.length_cons, List.length_nil, Bool.false_eq_true, reduceCtorEq, ↓reduceIte, true_and, and_true, and_self, eq_self, Nat.reduceEqDiff, Nat.zero_add, Nat.le_refl, Nat.succ_ne_self, Nat.zero_ne_one, Int.toNat_natCast]
  refine ⟨fun h1 => ?_, fun h1 => ?_⟩
  · have hlt : out.length < l.length := by have := of_decide_eq_true h1; omega
    obtain ⟨x, hd, hg, hmx, hat⟩ := drop_at hlt
    have hx0 := hnn x hmx
    have hds := sum_nonneg (l := l.drop (out.length + 1)) (fun y hy => hnn y (List.mem_of_mem_drop hy))
    rw [hd, List.sum_cons] at hr
    rw [hd, psums, deal2] at he
    have ew : IntKind.i64.wrap (run + x) = run + x := wI (by omega)
    simp only [hg, ew]
    repeat' first
        | (first
            | refine TR.p hP (by first | exact s13 m (run + x) l.sum hm (by omega) (by omega)) (by repeat' first | exact trivial | (intro _; assumption) | apply And.intro) ?_
            | refine TR.gp hP rfl (fun _ => by first | exact s13 m (run + x) l.sum hm (by omega) (by omega)) (fun _ => by repeat' first | exact trivial | (intro _; assumption) | apply And.intro) ?_
            | refine TR.pv hP rfl (by first | exact s13 m (run + x) l.sum hm (by omega) (by omega)) trivial (by repeat' first | exact trivial | (intro _; assumption) | apply And.intro) ?_
           try simp only [vcC_seq, vcC_reg, seqK_nrm, blkK_nrm, nrmK_app, vcR_nil, vcR_n, isCall, makes, newOf, opR, binI, evS, evV, evX, evSs, evVs, catV, Go.Bx.get, Go.Bx.own?, cellsV, nth, toDs, St.stp, Ef.stp, lgs, setE, applyU, setO, delO, newN, Option.getD_some, Option.map_some, List.append_nil, List.length_cons, List.length_nil, List.mem_cons, List.not_mem_nil, Bool.false_eq_true, reduceCtorEq, ↓reduceIte, true_and, and_true, and_self, or_false, not_false_eq_true, forall_const, eq_self, Nat.reduceAdd, Nat.reduceEqDiff, Nat.zero_add, Nat.succ_ne_self, litRow, Nat.reduceLT, Nat.mul_one])
        | refine And.intro (fun h => ?_) (fun h => ?_)
        | refine And.intro (by first | omega | (simp only [maxLen, decide_eq_true_eq] at *; omega)) ?_
        | refine And.intro rfl ?_
        | fail
    exact lopK.on (out ++ [IntKind.i64.wrap ((downR m (run + x) l.sum).1 - ah)], run + x, (downR m (run + x) l.sum).1) ⟨by simp; omega, ⟨by simp only; omega, by simp only [List.length_append, List.length_singleton]; omega⟩, by rw [he]; simp⟩ (by simp; omega) (Wk.snoc (k := 70) _ hfn rfl rfl rfl rfl (OLe.app1 (cells := fun n => [.int .i64 n]) (fun i hi => by simp only [if_pos hi]) (by simp)) (by (simp only [EnvLe, VLe_refl, VLe_int, Go.Bx.get, reduceCtorEq, ↓reduceIte, true_and, and_true, eq_self, Nat.reduceEqDiff, Nat.succ_ne_self, Nat.zero_ne_one]) <;> (first | exact wS (by omega) | (rw [List.length_append]; exact wS (by omega)) | assumption)) (by simp only [OwnLe]) (by simp) (by simp only [EnvLe, VLe_refl, Go.Bx.get, reduceCtorEq, ↓reduceIte, and_self, eq_self, Nat.reduceEqDiff, Nat.zero_ne_one]) (by simp only [OwnLe, OLe_refl, exists_eq_left', Option.some.injEq, Go.Bx.own?, setO, delO, ↓reduceIte, and_self, eq_self]))
  · have hkl : out.length = l.length := by have := of_decide_eq_false h1; omega
    rw [hkl, List.drop_length, psums, deal2, List.append_nil] at he
    repeat' first
        | (first
            | refine TR.p hP (by first | fail) (by repeat' first | exact trivial | (intro _; assumption) | apply And.intro) ?_
            | refine TR.gp hP rfl (fun _ => by first | fail) (fun _ => by repeat' first | exact trivial | (intro _; assumption) | apply And.intro) ?_
            | refine TR.pv hP rfl (by first | fail) trivial (by repeat' first | exact trivial | (intro _; assumption) | apply And.intro) ?_
           try simp only [↓evSo_some, vcC_seq, vcC_reg, vcC_drw, vcC_skip, vcC_cond, vcC_block, vcC_exit, vcC_ret, vcC_bad, seqK_nrm, seqK_exit, seqK_ret, blkK_nrm, blkK_exit, blkK_ret, lopK_exit, lopK_ret, lopX_exit, lopX_ret, nrmK_app, drwK_app, initE, vcR_nil, vcR_n, vcR_s, isCall, makes, hasU, slK, newOf, opR, binI, pickV, evS, evV, evX, evSs, evVs, evParts, evPartsS, fillV, catV, gOf, Go.Bx.get, Go.Bx.own?, cellsV, isCell, cut, cutD, nth, nthD, dropV, takeV, dropD, takeDV, putV, toDs, St.stp, Ef.stp, Stp.lg, lgs, setE, applyU, setO, delO, newN, keysO, callU, Ef.bad, Option.getD_some, Option.getD_none, Option.map_some, Option.map_none, List.all_cons, List.all_nil, List.map_cons, List.map_nil, List.append_nil, List.nil_append, List.cons_append, List.length_cons, List.length_nil, List.mem_cons, List.not_mem_nil, Bool.and_true, Bool.true_and, Bool.and_self, Bool.not_true, Bool.not_false, Bool.or_self, Bool.or_false, Bool.false_or, Bool.false_eq_true, Bool.true_eq_false, Bool.cond_true_left, Bool.cond_false_right, cond_true, cond_false, reduceCtorEq, ↓reduceIte, if_true, if_false, true_and, and_true, and_self, false_and, and_false, or_false, false_or, not_false_eq_true, not_true_eq_false, forall_const, true_implies, false_implies, implies_true, imp_self, eq_self, ne_eq, Nat.reduceAdd, Nat.reduceSub, Nat.reduceMul, Nat.reduceLeDiff, Nat.reduceEqDiff, Nat.zero_add, Nat.add_zero, Nat.le_refl, Nat.succ_ne_self, Nat.one_ne_zero, Nat.zero_ne_one, Int.toNat_natCast, litRow, List.drop_succ_cons, List.drop_zero, List.take_succ_cons, List.take_zero, pubE, pubV, pubL, pubO, eqS, eqB, Nat.reduceLT, Nat.not_lt_zero, Nat.sub_zero, decide_true, decide_false, true_or, or_true, Int.le_refl, Int.cast_ofNat_Int, Int.reduceToNat, Int.reduceLT, Int.reduceLE, beq_self_eq_true, Nat.mul_one, Nat.one_mul, Nat.zero_mul])
        | refine And.intro (fun h => ?_) (fun h => ?_)
        | refine And.intro (by first | omega | (simp only [maxLen, decide_eq_true_eq, decide_eq_false_iff_not] at *; omega)) ?_
        | refine And.intro rfl ?_
        | fail
    refine RetK.mk _ (Wk.pub 1000 rfl) (by simp only [rs20, ressS, resS, delO, ↓reduceIte, and_self, eq_self, pubE, pubV, pubO]) ?_ trivial
    simp only [rs20, retV, ressV, resV, Go.Bx.get, ↓reduceIte, eq_self, Nat.succ_ne_self, pubE, pubV]
    rw [hbase, he]
    exact VLe.tups ⟨VLe.sl rfl (fun _ => rfl) id fun i hi => rfl, VLe.refl _, trivial⟩
theorem s21 (a b : List Int) (ha : a.length ≤ 9223372036854775807) : Ctr Try.prog 21 [.d (slK .i64 a), .d (slK .i64 b)] [] (.d (.bool (decide (a = b)))) [] [] := by
  refine pure21 (by simp) rfl rfl ?_
  intro c hP hfn
  simp only [c21, vcC_seq, vcC_reg, vcC_skip, vcC_cond, vcC_block, vcC_ret, seqK_nrm, seqK_ret, nrmK_app, initE, vcR_nil, vcR_n, isCall, makes, slK, newOf, opR, binI, evS, evV, evX, Go.Bx.get, St.stp, Ef.stp, lgs, setE, applyU, newN, Bool.false_eq_true, reduceCtorEq, ↓reduceIte, true_and, and_self, eq_self, Nat.reduceEqDiff, Nat.zero_add, Nat.succ_ne_self, Nat.zero_ne_one]
  refine ⟨fun h => ?_, fun h => ?_⟩
  · have hn : a ≠ b := by rintro rfl; simp at h
    exact RetK.pure (by simp only [rs21, ressS, resS, and_self]) (by (simp only [rs21, retV, resV, Go.Bx.get, ↓reduceIte, eq_self, VLe_bool, Go.Bx.get, ↓reduceIte, eq_self]) <;> (first | simp [hn]))
  have hab : a.length = b.length := by have h := eq_of_beq (show ((a.length : Int) == b.length) = true by simpa using h); omega
  refine vcC.loop (X := Nat) (fun k => ⟨[(0, .d (slK .i64 a)), (1, .d (slK .i64 b)), (5, .d (.int .i64 k))], [], []⟩)
    (fun k => k ≤ a.length ∧ (a = b ↔ a.drop k = b.drop k)) (fun k => a.length - k) 0 ⟨Nat.zero_le _, by simp⟩ (Wk.of [] hfn rfl (by (simp only [EnvLe, VLe_refl, slK, Go.Bx.get, reduceCtorEq, ↓reduceIte, and_self, eq_self, Nat.reduceEqDiff, Nat.zero_ne_one, Int.cast_ofNat_Int]) <;> (first | exact wS (by omega) | (rw [List.length_append]; exact wS (by omega)) | assumption)) (by simp only [OwnLe])) ?_
  rintro k ⟨hk, he⟩
  simp only [vcC_seq, vcC_reg, vcC_drw, vcC_skip, vcC_cond, vcC_block, vcC_exit, vcC_ret, seqK_nrm, seqK_exit, seqK_ret, blkK_nrm, blkK_exit, blkK_ret, lopK_exit, lopK_ret, nrmK_app, drwK_app, vcR_nil, vcR_n, isCall, makes, slK, newOf, opR, binI, evS, evV, evX, Go.Bx.get, cutD, nthD, St.stp, Ef.stp, Stp.lg, lgs, setE, applyU, newN, List.map_nil, List.append_nil, List.nil_append, List.cons_append, List.length_cons, List.length_nil, Bool.false_eq_true, reduceCtorEq, ↓reduceIte, true_and, and_true, and_self, eq_self, Nat.reduceEqDiff, Nat.zero_add, Nat.le_refl, Nat.succ_ne_self, Nat.zero_ne_one, Int.toNat_natCast]
  refine ⟨fun h1 => ?_, fun h1 => ?_⟩
  · have hlt : k < a.length := by have := of_decide_eq_true h1; omega
    obtain ⟨x, hd, hg, -, -⟩ := drop_at hlt
    obtain ⟨y, hd2, hg2, -, -⟩ := drop_at (hab ▸ hlt)
    simp only [hg, hg2]
    rw [hd, hd2] at he
    repeat' first
        | (first
            | refine TR.p hP (by first | fail) (by repeat' first | exact trivial | (intro _; assumption) | apply And.intro) ?_
            | refine TR.gp hP rfl (fun _ => by first | fail) (fun _ => by repeat' first | exact trivial | (intro _; assumption) | apply And.intro) ?_
            | refine TR.pv hP rfl (by first | fail) trivial (by repeat' first | exact trivial | (intro _; assumption) | apply And.intro) ?_
           try simp only [↓evSo_some, vcC_seq, vcC_reg, vcC_drw, vcC_skip, vcC_cond, vcC_block, vcC_exit, vcC_ret, vcC_bad, seqK_nrm, seqK_exit, seqK_ret, blkK_nrm, blkK_exit, blkK_ret, lopK_exit, lopK_ret, lopX_exit, lopX_ret, nrmK_app, drwK_app, initE, vcR_nil, vcR_n, vcR_s, isCall, makes, hasU, slK, newOf, opR, binI, pickV, evS, evV, evX, evSs, evVs, evParts, evPartsS, fillV, catV, gOf, Go.Bx.get, Go.Bx.own?, cellsV, isCell, cut, cutD, nth, nthD, dropV, takeV, dropD, takeDV, putV, toDs, St.stp, Ef.stp, Stp.lg, lgs, setE, applyU, setO, delO, newN, keysO, callU, Ef.bad, Option.getD_some, Option.getD_none, Option.map_some, Option.map_none, List.all_cons, List.all_nil, List.map_cons, List.map_nil, List.append_nil, List.nil_append, List.cons_append, List.length_cons, List.length_nil, List.mem_cons, List.not_mem_nil, Bool.and_true, Bool.true_and, Bool.and_self, Bool.not_true, Bool.not_false, Bool.or_self, Bool.or_false, Bool.false_or, Bool.false_eq_true, Bool.true_eq_false, Bool.cond_true_left, Bool.cond_false_right, cond_true, cond_false, reduceCtorEq, ↓reduceIte, if_true, if_false, true_and, and_true, and_self, false_and, and_false, or_false, false_or, not_false_eq_true, not_true_eq_false, forall_const, true_implies, false_implies, implies_true, imp_self, eq_self, ne_eq, Nat.reduceAdd, Nat.reduceSub, Nat.reduceMul, Nat.reduceLeDiff, Nat.reduceEqDiff, Nat.zero_add, Nat.add_zero, Nat.le_refl, Nat.succ_ne_self, Nat.one_ne_zero, Nat.zero_ne_one, Int.toNat_natCast, litRow, List.drop_succ_cons, List.drop_zero, List.take_succ_cons, List.take_zero, pubE, pubV, pubL, pubO, eqS, eqB, Nat.reduceLT, Nat.not_lt_zero, Nat.sub_zero, decide_true, decide_false, true_or, or_true, Int.le_refl, Int.cast_ofNat_Int, Int.reduceToNat, Int.reduceLT, Int.reduceLE, beq_self_eq_true, Nat.mul_one, Nat.one_mul, Nat.zero_mul])
        | refine And.intro (fun h => ?_) (fun h => ?_)
        | refine And.intro (by first | omega | (simp only [decide_eq_true_eq] at *; omega)) ?_
        | refine And.intro rfl ?_
        | fail
    · have hn : a ≠ b := fun e => by have := he.1 e; simp at this; simp [this.1] at h
      exact RetK.pure (by simp only [rs21, ressS, resS, and_self]) (by (simp only [rs21, retV, resV, Go.Bx.get, ↓reduceIte, eq_self, VLe_bool, Go.Bx.get, ↓reduceIte, eq_self]) <;> (first | simp [hn]))
    · refine lopK.on (k + 1) ⟨hlt, ?_⟩ (by omega) (Wk.of [] hfn rfl (by (simp only [EnvLe, VLe_refl, VLe_int, Go.Bx.get, reduceCtorEq, ↓reduceIte, true_and, and_true, eq_self, Nat.reduceEqDiff, Nat.zero_ne_one]) <;> (first | exact wS (by omega) | (rw [List.length_append]; exact wS (by omega)) | assumption)) (by simp only [OwnLe]))
      have hxy : x = y := by simpa using h
      rw [he, hxy]; simp
  · have hkl : k = a.length := by have := of_decide_eq_false h1; omega
    have : a = b := he.2 (by rw [hkl]; simp [hab])
    exact RetK.pure (by simp only [rs21, ressS, resS, and_self]) (by (simp only [rs21, retV, resV, Go.Bx.get, ↓reduceIte, eq_self, VLe_bool, Go.Bx.get, ↓reduceIte, eq_self]) <;> (first | simp [this]))
theorem deal2_len (m S : Int) : ∀ (l : List Int) (d : Int), (deal2 m S d l).length = l.length
  | [], _ => rfl
  | s :: r, d => by simp [deal2, deal2_len m S r]
theorem split_len (m : Int) (l : List Int) : (splitR m l).1.length ≤ l.length := by
  unfold splitR
  split
  · simp
  split
  · simp
  split
  · simp
  split
  · simp
  · simp [deal2_len, psums_len]
theorem s19' {m : Int} {full : Bool} {n : Nat} {ds : List D} {l : List Int} (h : LitI .i64 ds l) (hn : n = l.length) (hm : m ≤ 9223372036854775807) (hl : l.length ≤ 9223372036854775807) (hx : ∀ x, x ∈ l → x ≤ 9223372036854775807) : Ctr Try.prog 19 [.d (.int .i64 m), .d (.sl full 1 n (litRow 1 ds))] [] (.tup [.d (slK .i64 (splitR m l).1), .d (.int .i64 (splitR m l).2)]) [] [] :=
  (s19 m l hm hl hx).arg ⟨VLe.refl _, h.vle hn, trivial⟩
theorem s21' {a b : List Int} {full : Bool} {n : Nat} {ds : List D} (h : LitI .i64 ds b) (hn : n = b.length) (ha : a.length ≤ 9223372036854775807) : Ctr Try.prog 21 [.d (slK .i64 a), .d (.sl full 1 n (litRow 1 ds))] [] (.d (.bool (decide (a = b)))) [] [] :=
  (s21 a b ha).arg ⟨VLe.refl _, h.vle hn, trivial⟩
theorem s19n {m : Int} (hm : m ≤ 9223372036854775807) : Ctr Try.prog 19 [.d (.int .i64 m), .d (.sl true 0 0 fun _ => [])] [] (.tup [.d (slK .i64 (splitR m []).1), .d (.int .i64 (splitR m []).2)]) [] [] :=
  (s19 m [] hm (by simp) (by simp)).arg ⟨VLe.refl _, nilK, trivial⟩
end Go.Proofs.Ytgeidjhobbndjaa
