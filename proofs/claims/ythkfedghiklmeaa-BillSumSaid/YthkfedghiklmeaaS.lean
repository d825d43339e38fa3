import Derived.Test.YthkfedghiklmeaaN0
namespace Go.Proofs.Ythkfedghiklmeaa
open Go.Bx
set_option maxRecDepth 10000

/-! Rounded down; dealt out. -/
def upD (_ _ _ : Nat) : Bool := false
theorem sDown1 (q r c : Nat) (_ : r < c) (_ : c < 9223372036854775808) : Ctr Try.prog 60 [.d (.int .u64 q), .d (.int .u64 r), .d (.int .u64 c)] [] (.d (.bool (upD q r c))) [] [] := by
  refine pure60 (by simp) rfl rfl ?_; intro c hP hfn; simp only [c60, vcC_seq, vcC_reg, vcC_ret, seqK_nrm, nrmK_app, initE, vcR_nil, vcR_n, isCall, makes, newOf, opR, evS, evV, evX, St.stp, Ef.stp, lgs, setE, applyU, newN, Bool.false_eq_true, ↓reduceIte, true_and, Nat.reduceAdd, Nat.zero_add]
  exact RetK.pure (by simp only [rs60, ressS, resS, and_self]) (by simp only [rs60, retV, resV, Go.Bx.get, ↓reduceIte, eq_self, VLe_refl, Go.Bx.get, ↓reduceIte, eq_self, upD])
theorem sDown0 : Ctr Try.prog 56 [] [] (.ag [.fn (.func 60) [] []]) [] [] := by
  refine pure56 (by simp) rfl rfl ?_; intro c hP hfn; simp only [c56, vcC_seq, vcC_reg, vcC_ret, seqK_nrm, nrmK_app, initE, vcR_nil, vcR_n, isCall, makes, newOf, opR, evS, evV, evX, evParts, evPartsS, fillV, Go.Bx.get, Go.Bx.own?, cellsV, isCell, putV, St.stp, Ef.stp, lgs, setE, applyU, setO, newN, Option.getD_some, List.all_cons, List.all_nil, List.length_cons, List.length_nil, List.mem_cons, List.not_mem_nil, Bool.and_self, Bool.false_eq_true, ↓reduceIte, true_and, and_self, or_false, not_false_eq_true, eq_self, Nat.zero_add, Nat.le_refl, Nat.succ_ne_self, decide_true]
  exact RetK.pure (by simp only [rs56, ressS, resS, Go.Bx.get, Go.Bx.own?, List.length_cons, List.length_nil, ↓reduceIte, and_self, eq_self, Nat.zero_add, Nat.le_refl, Nat.succ_ne_self]) (by simp only [rs56, retV, resV, Go.Bx.get, Go.Bx.own?, cut, dropV, takeV, ↓reduceIte, eq_self, Nat.succ_ne_self, VLe_refl, Go.Bx.get, Go.Bx.own?, cut, dropV, takeV, ↓reduceIte, eq_self, Nat.succ_ne_self])
def downR (a b k : Int) : Int × Int := ofR upD a b k
theorem sDown (a b k : Int) (ha : a ≤ 9223372036854775807) (hb : b ≤ 9223372036854775807) (hc : k ≤ 9223372036854775807) :
    Ctr Try.prog 50 [.d (.int .i64 a), .d (.int .i64 b), .d (.int .i64 k)] [] (.tup [.d (.int .i64 (downR a b k).1), .d (.int .i64 (downR a b k).2)]) [] [] := by
  refine pure50 (by simp) rfl rfl ?_; intro c hP hfn; simp only [c50, vcC_seq, vcC_reg, seqK_nrm, nrmK_app, initE, vcR_nil, vcR_n, isCall, makes, newOf, opR, evS, evV, evX, St.stp, Ef.stp, lgs, setE, applyU, newN, Bool.false_eq_true, ↓reduceIte, true_and, eq_self, Nat.reduceAdd, Nat.zero_add]
  repeat' first
      | (first
          | refine TR.p hP (by first | exact sDown0 | exact sOf 60 upD sDown1 a b k ha hb hc) (by repeat' first | exact trivial | (intro _; assumption) | apply And.intro) ?_
          | refine TR.gp hP rfl (fun _ => by first | exact sDown0 | exact sOf 60 upD sDown1 a b k ha hb hc) (fun _ => by repeat' first | exact trivial | (intro _; assumption) | apply And.intro) ?_
          | refine TR.pv hP rfl (by first | exact sDown0 | exact sOf 60 upD sDown1 a b k ha hb hc) trivial (by repeat' first | exact trivial | (intro _; assumption) | apply And.intro) ?_
         try simp only [vcC_ret, seqK_nrm, nrmK_app, vcR_nil, vcR_n, isCall, makes, newOf, opR, evS, evV, evX, Go.Bx.get, nth, St.stp, Ef.stp, lgs, setE, applyU, newN, List.length_cons, List.length_nil, Bool.false_eq_true, reduceCtorEq, ↓reduceIte, true_and, and_self, eq_self, Nat.reduceAdd, Nat.reduceEqDiff, Nat.zero_add, Nat.succ_ne_self, Nat.zero_ne_one, Nat.reduceLT])
      | refine And.intro (fun h => ?_) (fun h => ?_)
      | refine And.intro (by first | omega | (simp only [maxLen, decide_eq_true_eq, decide_eq_false_iff_not] at *; omega)) ?_
      | (refine TR.aslO rfl rfl rfl rfl trivial (Nat.le_of_ble_eq_true rfl) ?_
         try simp only [↓evSo_some, vcC_seq, vcC_reg, vcC_drw, vcC_skip, vcC_cond, vcC_block, vcC_exit, vcC_ret, vcC_bad, seqK_nrm, seqK_exit, seqK_ret, blkK_nrm, blkK_exit, blkK_ret, lopK_exit, lopK_ret, lopX_exit, lopX_ret, jmpK_nrm, jmpK_exit, jmpK_ret, nrmK_app, drwK_app, initE, vcR_nil, vcR_n, vcR_s, isCall, makes, hasU, slK, newOf, opR, binI, pickV, evS, evV, evX, evSs, evVs, evParts, evPartsS, fillV, catV, gOf, Go.Bx.get, Go.Bx.own?, cellsV, isCell, cut, cutD, nth, nthD, dropV, takeV, dropD, takeDV, putV, toDs, St.stp, Ef.stp, Stp.lg, lgs, setE, applyU, setO, delO, newN, keysO, callU, Ef.bad, Option.getD_some, Option.getD_none, Option.map_some, Option.map_none, List.all_cons, List.all_nil, List.map_cons, List.map_nil, List.append_nil, List.nil_append, List.cons_append, List.length_cons, List.length_nil, List.mem_cons, List.not_mem_nil, Bool.and_true, Bool.true_and, Bool.and_self, Bool.not_true, Bool.not_false, Bool.or_self, Bool.or_false, Bool.false_or, Bool.false_eq_true, Bool.true_eq_false, Bool.cond_true_left, Bool.cond_false_right, cond_true, cond_false, reduceCtorEq, ↓reduceIte, if_true, if_false, true_and, and_true, and_self, false_and, and_false, or_false, false_or, not_false_eq_true, not_true_eq_false, forall_const, true_implies, false_implies, implies_true, imp_self, eq_self, ne_eq, Nat.reduceAdd, Nat.reduceSub, Nat.reduceMul, Nat.reduceMod, Nat.reduceLeDiff, Nat.reduceEqDiff, Nat.zero_add, Nat.add_zero, Nat.le_refl, Nat.succ_ne_self, Nat.one_ne_zero, Nat.zero_ne_one, Int.toNat_natCast, litRow, List.drop_succ_cons, List.drop_zero, List.take_succ_cons, List.take_zero, pubE, pubV, pubL, pubO, pubFE, pubFV, pubFL, pubFO, delO, eqS, eqB, Nat.reduceLT, Nat.not_lt_zero, Nat.sub_zero, decide_true, decide_false, true_or, or_true, Int.le_refl, Int.cast_ofNat_Int, Int.reduceToNat, Int.reduceLT, Int.reduceLE, beq_self_eq_true, Nat.mul_one, Nat.one_mul, Nat.zero_mul])
      | refine And.intro trivial ?_
      | refine And.intro rfl ?_
      | fail
  (refine RetK.pure (by simp only [rs50, ressS, resS, and_self]) (VLe.tups ?_); simp only [ressV, resV, Go.Bx.get, ↓reduceIte, eq_self, Nat.succ_ne_self])
  exact ⟨VLe.refl _, VLe.refl _, trivial⟩


def psums : Int → List Int → List Int
  | _, [] => []
  | n, p :: r => (n + p) :: psums (n + p) r
def deal2 (m S : Int) : Int → List Int → List Int
  | _, [] => []
  | d, s :: r => IntKind.i64.wrap ((downR m s S).1 - d) :: deal2 m S (downR m s S).1 r
def splitR (m : Int) (parts : List Int) : List Int × Int :=
  if m < 0 ∨ 2000 < parts.length then ([], 1)
  else if parts.any (fun p => decide (p < 0)) = true then ([], 1)
  else if 4000000000000000000 < parts.sum ∨ 4000000000000000000 < m then ([], 5)
  else if parts.sum = 0 then ([], 6)
  else (deal2 m parts.sum 0 (psums 0 parts), 0)
theorem psums_len : ∀ (l : List Int) (n : Int), (psums n l).length = l.length
  | [], _ => rfl
  | p :: r, n => by simp [psums, psums_len r]
theorem psums_snoc : ∀ (l : List Int) (n x : Int), psums n (l ++ [x]) = psums n l ++ [n + l.sum + x]
  | [], n, x => by simp [psums]
  | p :: r, n, x => by simp [psums, psums_snoc r]; omega
theorem psums_last {l : List Int} {n : Int} (h : 0 < l.length) : (psums n l).getD (l.length - 1) 0 = n + l.sum := by
  obtain ⟨r, x, rfl⟩ : ∃ r x, l = r ++ [x] := by
    cases l with
    | nil => simp at h
    | cons p r => exact ⟨(p :: r).dropLast, (p :: r).getLast (by simp), (List.dropLast_concat_getLast (by simp)).symm⟩
  rw [psums_snoc]
  simp [psums_len]
  omega
/-- What the runner says of one part more, and what it has added up then. -/
def runR (s p : Int) : (Int × Int) × Int :=
  if p < 0 then ((0, 1), s)
  else if IntKind.i64.wrap (s + p) > 4000000000000000000 ∨ IntKind.i64.wrap (s + p) < 0 then ((0, 5), 4000000000000000001)
  else ((IntKind.i64.wrap (s + p), 0), IntKind.i64.wrap (s + p))
theorem sRun1 (s p : Int) : Ctr Try.prog 55 [.d (.int .i64 p), .own 1 0] [(1, .fix [.d (.int .i64 s)])] (.tup [.d (.int .i64 (runR s p).1.1), .d (.int .i64 (runR s p).1.2)]) [(1, .fix [.d (.int .i64 (runR s p).2)])] [] := by
  refine own55 (by simp) rfl ?_
  intro c hP hfn
  simp only [c55, namesL, V.names, ownNames, vcC_seq, vcC_reg, vcC_skip, vcC_cond, vcC_ret, seqK_nrm, seqK_ret, nrmK_app, initE, vcR_nil, vcR_n, vcR_s, isCall, makes, hasU, newOf, opR, binI, pickV, evS, evV, evX, gOf, Go.Bx.get, Go.Bx.own?, cellsV, cut, nth, putV, St.stp, Ef.stp, lgs, setE, applyU, setO, newN, Option.getD_some, List.append_nil, List.nil_append, List.cons_append, List.length_cons, List.length_nil, List.mem_cons, List.not_mem_nil, Bool.true_and, Bool.false_eq_true, Bool.cond_true_left, reduceCtorEq, ↓reduceIte, true_and, and_true, and_self, or_false, not_false_eq_true, forall_const, implies_true, imp_self, eq_self, Nat.reduceEqDiff, Nat.zero_add, Nat.le_refl, Nat.succ_ne_self, Nat.zero_ne_one, or_true]
  refine ⟨fun h => ?_, fun h => ⟨fun h2 => ?_, fun h2 => ?_⟩⟩
  · have e : runR s p = ((0, 1), s) := by rw [runR, if_pos (of_decide_eq_true h)]
    rw [e]
    exact RetK.mk _ (Wk.refl _ _) (by simp only [rs55, ressS, resS, and_self]) (by simp only [rs55, retV, ressV, resV, Go.Bx.get, ↓reduceIte, eq_self, Nat.succ_ne_self, VLe_refl, Go.Bx.get, ↓reduceIte, eq_self, Nat.succ_ne_self]) (by simp only [OwnLe, OLe_refl, exists_eq_left', Option.some.injEq, Go.Bx.own?, ↓reduceIte, and_self, eq_self])
  · have h2' : IntKind.i64.wrap (s + p) > 4000000000000000000 ∨ IntKind.i64.wrap (s + p) < 0 := by simpa using h2
    have e : runR s p = ((0, 5), 4000000000000000001) := by rw [runR, if_neg (of_decide_eq_false h), if_pos h2']
    rw [e]
    exact RetK.mk _ (Wk.refl _ _) (by simp only [rs55, ressS, resS, and_self]) (by simp only [rs55, retV, ressV, resV, Go.Bx.get, ↓reduceIte, eq_self, Nat.succ_ne_self, VLe_refl, Go.Bx.get, ↓reduceIte, eq_self, Nat.succ_ne_self]) (by simp only [OwnLe, OLe_refl, exists_eq_left', Option.some.injEq, Go.Bx.own?, ↓reduceIte, and_self, eq_self])
  · have h2' : ¬ (IntKind.i64.wrap (s + p) > 4000000000000000000 ∨ IntKind.i64.wrap (s + p) < 0) := by simpa using h2
    have e : runR s p = ((IntKind.i64.wrap (s + p), 0), IntKind.i64.wrap (s + p)) := by rw [runR, if_neg (of_decide_eq_false h), if_neg h2']
    rw [e]
    exact RetK.mk _ (Wk.refl _ _) (by simp only [rs55, ressS, resS, and_self]) (by simp only [rs55, retV, ressV, resV, Go.Bx.get, ↓reduceIte, eq_self, Nat.succ_ne_self, VLe_refl, Go.Bx.get, ↓reduceIte, eq_self, Nat.succ_ne_self]) (by simp only [OwnLe, OLe_refl, exists_eq_left', Option.some.injEq, Go.Bx.own?, ↓reduceIte, and_self, eq_self])
theorem sRun : Ctr Try.prog 49 [] [] (.fn (.func 55) [] [.own 1 0]) [(1, .fix [.d (.int .i64 0)])] [1] := by
  refine own49 (by simp) rfl ?_
  intro c hP hfn
  simp only [c49, namesL, ownNames, vcC_seq, vcC_reg, vcC_ret, seqK_nrm, nrmK_app, initE, vcR_nil, vcR_n, isCall, makes, newOf, opR, evS, evV, evX, evSs, evVs, Go.Bx.get, Go.Bx.own?, cellsV, putV, St.stp, Ef.stp, lgs, setE, applyU, setO, newN, Option.getD_some, List.append_nil, List.length_cons, List.length_nil, List.mem_cons, List.not_mem_nil, Bool.false_eq_true, ↓reduceIte, true_and, and_self, or_false, not_false_eq_true, eq_self, Nat.zero_add, Nat.le_refl]
  exact RetK.mk _ (Wk.refl _ _) (by simp only [rs49, ressS, resS, and_self]) (by simp only [rs49, retV, resV, Go.Bx.get, ↓reduceIte, eq_self, VLe_refl, Go.Bx.get, ↓reduceIte, eq_self]) (by simp only [OwnLe, OLe_refl, exists_eq_left', Option.some.injEq, Go.Bx.own?, ↓reduceIte, and_self, eq_self])

structure SpI (m : Int) (l : List Int) (k : Nat) (dn : List Int) (s : Int) (over : Bool) : Prop where
  len : dn.length = k
  le : k ≤ l.length
  nn : ∀ x, x ∈ l.take k → 0 ≤ x
  st : ((l.take k).sum ≤ 4000000000000000000 ∧ s = (l.take k).sum ∧ dn = psums 0 (l.take k) ∧ over = decide (m > 4000000000000000000)) ∨ (4000000000000000000 < (l.take k).sum ∧ s = 4000000000000000001 ∧ over = true)
theorem sum_nonneg : ∀ {l : List Int}, (∀ x, x ∈ l → 0 ≤ x) → 0 ≤ l.sum
  | [], _ => by simp
  | p :: r, h => by
    have := h p (by simp)
    have ih := sum_nonneg (l := r) (fun x hx => h x (by simp [hx]))
    simp only [List.sum_cons]; omega
theorem spI_step {m : Int} {l : List Int} {k : Nat} {dn : List Int} {s : Int} {over : Bool} {x : Int} (h : SpI m l k dn s over) (hlt : k < l.length) (hat : l[k]? = some x) (hx : x ≤ 9223372036854775807) :
    ((runR s x).1.2 = 1 ∧ x < 0) ∨ (0 ≤ x ∧ (runR s x).1.2 ≠ 1 ∧ SpI m l (k + 1) (dn ++ [(runR s x).1.1]) (runR s x).2 (over || ((runR s x).1.2 == 5))) := by
  have ht : l.take (k + 1) = l.take k ++ [x] := by rw [List.take_add_one, hat]; rfl
  by_cases hneg : x < 0
  · left; rw [runR, if_pos hneg]; exact ⟨rfl, hneg⟩
  right
  have hs0 := sum_nonneg h.nn
  have hnn : ∀ y, y ∈ l.take (k + 1) → 0 ≤ y := by
    intro y hy
    rw [ht] at hy
    rcases List.mem_append.1 hy with hy | hy
    · exact h.nn y hy
    · simp at hy; omega
  have hsum : (l.take (k + 1)).sum = (l.take k).sum + x := by rw [ht]; simp
  rcases h.st with ⟨h1, h2, h3, h4⟩ | ⟨h1, h2, h3⟩
  · by_cases hov : 4000000000000000000 < (l.take k).sum + x
    · have hw : IntKind.i64.wrap (s + x) > 4000000000000000000 ∨ IntKind.i64.wrap (s + x) < 0 := by rw [IntKind.wrap_i64]; omega
      rw [runR, if_neg hneg, if_pos hw]
      exact ⟨by omega, by simp, ⟨by simp [h.len], hlt, hnn, .inr ⟨by omega, rfl, by simp⟩⟩⟩
    · have hw : IntKind.i64.wrap (s + x) = s + x := wI (by omega)
      rw [runR, if_neg hneg, hw, if_neg (by omega)]
      refine ⟨by omega, by simp, ⟨by simp [h.len], hlt, hnn, .inl ⟨by omega, by simp only; omega, ?_, by simp [h4]⟩⟩⟩
      rw [ht, psums_snoc, h3, h2]; simp
  · have hw : IntKind.i64.wrap (s + x) > 4000000000000000000 ∨ IntKind.i64.wrap (s + x) < 0 := by rw [IntKind.wrap_i64]; omega
    rw [runR, if_neg hneg, if_pos hw]
    exact ⟨by omega, by simp, ⟨by simp [h.len], hlt, hnn, .inr ⟨by omega, rfl, by simp⟩⟩⟩
theorem any_neg {l : List Int} {x : Int} (hx : x ∈ l) (h : x < 0) : l.any (fun p => decide (p < 0)) = true := by
  rw [List.any_eq_true]; exact ⟨x, hx, by simpa using h⟩
theorem any_nonneg {l : List Int} (h : ∀ x, x ∈ l → 0 ≤ x) : ¬ (l.any (fun p => decide (p < 0)) = true) := by
  rw [List.any_eq_true]; rintro ⟨x, hx, h2⟩; have := h x hx; simp at h2; omega
theorem psums_le {l : List Int} (h : ∀ x, x ∈ l → 0 ≤ x) : ∀ (n : Int), 0 ≤ n → ∀ s, s ∈ psums n l → 0 ≤ s ∧ s ≤ n + l.sum := by
  induction l with
  | nil => intro n _ s hs; simp [psums] at hs
  | cons p r ih =>
    intro n hn s hs
    have hp := h p (by simp)
    have hr := sum_nonneg (l := r) (fun x hx => h x (by simp [hx]))
    simp only [psums, List.mem_cons] at hs
    simp only [List.sum_cons]
    rcases hs with rfl | hs
    · omega
    · have := ih (fun x hx => h x (by simp [hx])) (n + p) (by omega) s hs
      omega
theorem sSplit (m : Int) (l : List Int) (hm : m ≤ 9223372036854775807) (hl : l.length ≤ 9223372036854775807) (hx : ∀ x, x ∈ l → x ≤ 9223372036854775807) :
    Ctr Try.prog 38 [.d (.int .i64 m), .d (slK .i64 l)] [] (.tup [.d (slK .i64 (splitR m l).1), .d (.int .i64 (splitR m l).2)]) [] [] := by
  refine pure38 (by simp) rfl rfl ?_; intro c hP hfn; simp only [c38, vcC_seq, vcC_reg, vcC_skip, vcC_cond, vcC_ret, seqK_nrm, seqK_ret, nrmK_app, initE, vcR_nil, vcR_n, vcR_s, isCall, makes, hasU, slK, newOf, opR, binI, pickV, evS, evV, evX, gOf, Go.Bx.get, St.stp, Ef.stp, lgs, setE, applyU, newN, Option.getD_some, List.not_mem_nil, Bool.true_and, Bool.false_eq_true, Bool.cond_true_left, reduceCtorEq, ↓reduceIte, true_and, and_true, and_self, not_false_eq_true, forall_const, implies_true, imp_self, eq_self, Nat.reduceEqDiff, Nat.zero_add, Nat.succ_ne_self, Nat.zero_ne_one]
  refine ⟨fun h => ?_, fun h => ?_⟩
  · have h' : m < 0 ∨ 2000 < l.length := by simp only [Bool.or_eq_true, decide_eq_true_eq] at h; omega
    (refine RetK.pure (by simp only [rs38, ressS, resS, and_self]) (VLe.tups ?_); simp only [ressV, resV, Go.Bx.get, ↓reduceIte, eq_self, Nat.succ_ne_self])
    rw [splitR, if_pos h']; exact ⟨nilK, VLe.refl _, trivial⟩
  have h0 : ¬ (m < 0 ∨ 2000 < l.length) := by simp only [Bool.or_eq_false_iff, decide_eq_false_iff_not] at h; omega
  clear h
  refine TR.call [] [(1, .fix [.d (.int .i64 0)])] _ [1] (hP ▸ sRun) (by repeat' first | exact trivial | (intro _; assumption) | apply And.intro) (by simp) (by simp [keysO]) (by simp) ?_
  simp only [vcC_seq, vcC_reg, vcC_block, seqK_nrm, nrmK_app, vcR_nil, vcR_n, isCall, makes, newOf, opR, binI, evS, evV, evX, Go.Bx.get, St.stp, Ef.stp, lgs, setE, applyU, setO, newN, callU, Option.getD_some, List.map_cons, List.map_nil, List.nil_append, List.mem_cons, List.not_mem_nil, Bool.false_eq_true, reduceCtorEq, ↓reduceIte, true_and, and_true, and_self, or_false, not_false_eq_true, eq_self, Nat.reduceEqDiff, Nat.succ_ne_self, Nat.zero_ne_one, Int.toNat_natCast, Int.le_refl, Int.reduceToNat]
  repeat' first
      | (first
          | refine TR.p hP (by first | fail) (by repeat' first | exact trivial | (intro _; assumption) | apply And.intro) ?_
          | refine TR.gp hP rfl (fun _ => by first | fail) (fun _ => by repeat' first | exact trivial | (intro _; assumption) | apply And.intro) ?_
          | refine TR.pv hP rfl (by first | fail) trivial (by repeat' first | exact trivial | (intro _; assumption) | apply And.intro) ?_
         try simp only [↓evSo_some, vcC_seq, vcC_reg, vcC_drw, vcC_skip, vcC_cond, vcC_block, vcC_exit, vcC_ret, vcC_bad, seqK_nrm, seqK_exit, seqK_ret, blkK_nrm, blkK_exit, blkK_ret, lopK_exit, lopK_ret, lopX_exit, lopX_ret, jmpK_nrm, jmpK_exit, jmpK_ret, nrmK_app, drwK_app, initE, vcR_nil, vcR_n, vcR_s, isCall, makes, hasU, slK, newOf, opR, binI, pickV, evS, evV, evX, evSs, evVs, evParts, evPartsS, fillV, catV, gOf, Go.Bx.get, Go.Bx.own?, cellsV, isCell, cut, cutD, nth, nthD, dropV, takeV, dropD, takeDV, putV, toDs, St.stp, Ef.stp, Stp.lg, lgs, setE, applyU, setO, delO, newN, keysO, callU, Ef.bad, Option.getD_some, Option.getD_none, Option.map_some, Option.map_none, List.all_cons, List.all_nil, List.map_cons, List.map_nil, List.append_nil, List.nil_append, List.cons_append, List.length_cons, List.length_nil, List.mem_cons, List.not_mem_nil, Bool.and_true, Bool.true_and, Bool.and_self, Bool.not_true, Bool.not_false, Bool.or_self, Bool.or_false, Bool.false_or, Bool.false_eq_true, Bool.true_eq_false, Bool.cond_true_left, Bool.cond_false_right, cond_true, cond_false, reduceCtorEq, ↓reduceIte, if_true, if_false, true_and, and_true, and_self, false_and, and_false, or_false, false_or, not_false_eq_true, not_true_eq_false, forall_const, true_implies, false_implies, implies_true, imp_self, eq_self, ne_eq, Nat.reduceAdd, Nat.reduceSub, Nat.reduceMul, Nat.reduceMod, Nat.reduceLeDiff, Nat.reduceEqDiff, Nat.zero_add, Nat.add_zero, Nat.le_refl, Nat.succ_ne_self, Nat.one_ne_zero, Nat.zero_ne_one, Int.toNat_natCast, litRow, List.drop_succ_cons, List.drop_zero, List.take_succ_cons, List.take_zero, pubE, pubV, pubL, pubO, pubFE, pubFV, pubFL, pubFO, delO, eqS, eqB, Nat.reduceLT, Nat.not_lt_zero, Nat.sub_zero, decide_true, decide_false, true_or, or_true, Int.le_refl, Int.cast_ofNat_Int, Int.reduceToNat, Int.reduceLT, Int.reduceLE, beq_self_eq_true, Nat.mul_one, Nat.one_mul, Nat.zero_mul])
      | refine And.intro (fun h => ?_) (fun h => ?_)
      | refine And.intro (by first | omega | (simp only [maxLen, decide_eq_true_eq, decide_eq_false_iff_not] at *; omega)) ?_
      | (refine TR.aslO rfl rfl rfl rfl trivial (Nat.le_of_ble_eq_true rfl) ?_
         try simp only [↓evSo_some, vcC_seq, vcC_reg, vcC_drw, vcC_skip, vcC_cond, vcC_block, vcC_exit, vcC_ret, vcC_bad, seqK_nrm, seqK_exit, seqK_ret, blkK_nrm, blkK_exit, blkK_ret, lopK_exit, lopK_ret, lopX_exit, lopX_ret, jmpK_nrm, jmpK_exit, jmpK_ret, nrmK_app, drwK_app, initE, vcR_nil, vcR_n, vcR_s, isCall, makes, hasU, slK, newOf, opR, binI, pickV, evS, evV, evX, evSs, evVs, evParts, evPartsS, fillV, catV, gOf, Go.Bx.get, Go.Bx.own?, cellsV, isCell, cut, cutD, nth, nthD, dropV, takeV, dropD, takeDV, putV, toDs, St.stp, Ef.stp, Stp.lg, lgs, setE, applyU, setO, delO, newN, keysO, callU, Ef.bad, Option.getD_some, Option.getD_none, Option.map_some, Option.map_none, List.all_cons, List.all_nil, List.map_cons, List.map_nil, List.append_nil, List.nil_append, List.cons_append, List.length_cons, List.length_nil, List.mem_cons, List.not_mem_nil, Bool.and_true, Bool.true_and, Bool.and_self, Bool.not_true, Bool.not_false, Bool.or_self, Bool.or_false, Bool.false_or, Bool.false_eq_true, Bool.true_eq_false, Bool.cond_true_left, Bool.cond_false_right, cond_true, cond_false, reduceCtorEq, ↓reduceIte, if_true, if_false, true_and, and_true, and_self, false_and, and_false, or_false, false_or, not_false_eq_true, not_true_eq_false, forall_const, true_implies, false_implies, implies_true, imp_self, eq_self, ne_eq, Nat.reduceAdd, Nat.reduceSub, Nat.reduceMul, Nat.reduceMod, Nat.reduceLeDiff, Nat.reduceEqDiff, Nat.zero_add, Nat.add_zero, Nat.le_refl, Nat.succ_ne_self, Nat.one_ne_zero, Nat.zero_ne_one, Int.toNat_natCast, litRow, List.drop_succ_cons, List.drop_zero, List.take_succ_cons, List.take_zero, pubE, pubV, pubL, pubO, pubFE, pubFV, pubFL, pubFO, delO, eqS, eqB, Nat.reduceLT, Nat.not_lt_zero, Nat.sub_zero, decide_true, decide_false, true_or, or_true, Int.le_refl, Int.cast_ofNat_Int, Int.reduceToNat, Int.reduceLT, Int.reduceLE, beq_self_eq_true, Nat.mul_one, Nat.one_mul, Nat.zero_mul])
      | refine And.intro trivial ?_
      | refine And.intro rfl ?_
      | fail
  refine vcC.loop (X := Nat × List Int × Int × Bool) (fun x => ⟨[(8, .osl 1000), (0, .d (.int .i64 m)), (6, .fn (.func 55) [] [.own 1 0]), (7, .d (.bool x.2.2.2)), (33, .d (slK .i64 l)), (34, .d (.int .i64 l.length)), (35, .d (.int .i64 x.1))],
        [(1000, .row 3 1 x.2.1.length (fun i => [.int .i64 (x.2.1.getD i 0)])), (1, .fix [.d (.int .i64 x.2.2.1)])], [1000, 1]⟩)
      (fun x => SpI m l x.1 x.2.1 x.2.2.1 x.2.2.2) (fun x => l.length - x.1) (0, [], 0, decide (m > 4000000000000000000)) ⟨rfl, Nat.zero_le _, by simp, .inl ⟨by simp, by simp, by simp [psums], rfl⟩⟩
      (Wk.snoc (k := 32) _ hfn rfl rfl rfl rfl (OLe.row rfl (fun i hi => absurd hi (Nat.not_lt_zero i))) (by (simp only [EnvLe, VLe_refl, slK, Go.Bx.get, reduceCtorEq, ↓reduceIte, and_self, eq_self, Nat.reduceEqDiff, Nat.succ_ne_self, Int.cast_ofNat_Int]) <;> (first | exact wS (by omega) | (rw [List.length_append]; exact wS (by omega)) | assumption)) (by simp only [OwnLe, OLe_refl, exists_eq_left', Option.some.injEq, Go.Bx.own?, ↓reduceIte, and_self, eq_self]) (by simp) (by simp only [EnvLe, VLe_refl, slK, Go.Bx.get, reduceCtorEq, ↓reduceIte, and_self, eq_self, Nat.reduceEqDiff, Nat.succ_ne_self, Int.cast_ofNat_Int]) (by simp only [OwnLe, OLe_refl, exists_eq_left', Option.some.injEq, Go.Bx.own?, setO, delO, List.length_nil, ↓reduceIte, and_self, eq_self, Nat.reduceEqDiff, delO])) ?_
  rintro ⟨k, dn, s, over⟩ hk
  simp only at hk
  simp only [vcC_seq, vcC_reg, vcC_skip, vcC_cond, vcC_block, vcC_exit, vcC_ret, seqK_nrm, seqK_exit, seqK_ret, blkK_nrm, blkK_exit, blkK_ret, lopK_exit, nrmK_app, vcR_nil, vcR_n, vcR_s, isCall, makes, hasU, slK, newOf, opR, binI, pickV, evS, evV, evX, gOf, Go.Bx.get, Go.Bx.own?, cutD, nthD, St.stp, Ef.stp, lgs, setE, applyU, setO, newN, Option.getD_some, List.length_cons, List.length_nil, List.mem_cons, List.not_mem_nil, Bool.true_and, Bool.false_eq_true, Bool.cond_true_left, reduceCtorEq, ↓reduceIte, true_and, and_true, and_self, or_false, not_false_eq_true, forall_const, implies_true, imp_self, eq_self, Nat.reduceEqDiff, Nat.zero_add, Nat.le_refl, Nat.succ_ne_self, Int.toNat_natCast, Int.le_refl]
  refine ⟨fun h1 => ?_, fun h1 => ?_⟩
  · have hlt : k < l.length := by have := of_decide_eq_true h1; omega
    obtain ⟨x, hd, hg, hmx, hat⟩ := drop_at hlt
    have hst := spI_step hk hlt hat (hx x hmx)
    simp only [hg]
    repeat' first
        | (first
            | refine TR.p hP (by first | fail) (by repeat' first | exact trivial | (intro _; assumption) | apply And.intro) ?_
            | refine TR.gp hP rfl (fun _ => by first | fail) (fun _ => by repeat' first | exact trivial | (intro _; assumption) | apply And.intro) ?_
            | refine TR.pv hP rfl (by first | fail) trivial (by repeat' first | exact trivial | (intro _; assumption) | apply And.intro) ?_
           try simp only [↓evSo_some, vcC_seq, vcC_reg, vcC_drw, vcC_skip, vcC_cond, vcC_block, vcC_exit, vcC_ret, vcC_bad, seqK_nrm, seqK_exit, seqK_ret, blkK_nrm, blkK_exit, blkK_ret, lopK_exit, lopK_ret, lopX_exit, lopX_ret, jmpK_nrm, jmpK_exit, jmpK_ret, nrmK_app, drwK_app, initE, vcR_nil, vcR_n, vcR_s, isCall, makes, hasU, slK, newOf, opR, binI, pickV, evS, evV, evX, evSs, evVs, evParts, evPartsS, fillV, catV, gOf, Go.Bx.get, Go.Bx.own?, cellsV, isCell, cut, cutD, nth, nthD, dropV, takeV, dropD, takeDV, putV, toDs, St.stp, Ef.stp, Stp.lg, lgs, setE, applyU, setO, delO, newN, keysO, callU, Ef.bad, Option.getD_some, Option.getD_none, Option.map_some, Option.map_none, List.all_cons, List.all_nil, List.map_cons, List.map_nil, List.append_nil, List.nil_append, List.cons_append, List.length_cons, List.length_nil, List.mem_cons, List.not_mem_nil, Bool.and_true, Bool.true_and, Bool.and_self, Bool.not_true, Bool.not_false, Bool.or_self, Bool.or_false, Bool.false_or, Bool.false_eq_true, Bool.true_eq_false, Bool.cond_true_left, Bool.cond_false_right, cond_true, cond_false, reduceCtorEq, ↓reduceIte, if_true, if_false, true_and, and_true, and_self, false_and, and_false, or_false, false_or, not_false_eq_true, not_true_eq_false, forall_const, true_implies, false_implies, implies_true, imp_self, eq_self, ne_eq, Nat.reduceAdd, Nat.reduceSub, Nat.reduceMul, Nat.reduceMod, Nat.reduceLeDiff, Nat.reduceEqDiff, Nat.zero_add, Nat.add_zero, Nat.le_refl, Nat.succ_ne_self, Nat.one_ne_zero, Nat.zero_ne_one, Int.toNat_natCast, litRow, List.drop_succ_cons, List.drop_zero, List.take_succ_cons, List.take_zero, pubE, pubV, pubL, pubO, pubFE, pubFV, pubFL, pubFO, delO, eqS, eqB, Nat.reduceLT, Nat.not_lt_zero, Nat.sub_zero, decide_true, decide_false, true_or, or_true, Int.le_refl, Int.cast_ofNat_Int, Int.reduceToNat, Int.reduceLT, Int.reduceLE, beq_self_eq_true, Nat.mul_one, Nat.one_mul, Nat.zero_mul])
        | refine And.intro (fun h => ?_) (fun h => ?_)
        | refine And.intro (by first | omega | (simp only [maxLen, decide_eq_true_eq, decide_eq_false_iff_not] at *; omega)) ?_
        | (refine TR.aslO rfl rfl rfl rfl trivial (Nat.le_of_ble_eq_true rfl) ?_
           try simp only [↓evSo_some, vcC_seq, vcC_reg, vcC_drw, vcC_skip, vcC_cond, vcC_block, vcC_exit, vcC_ret, vcC_bad, seqK_nrm, seqK_exit, seqK_ret, blkK_nrm, blkK_exit, blkK_ret, lopK_exit, lopK_ret, lopX_exit, lopX_ret, jmpK_nrm, jmpK_exit, jmpK_ret, nrmK_app, drwK_app, initE, vcR_nil, vcR_n, vcR_s, isCall, makes, hasU, slK, newOf, opR, binI, pickV, evS, evV, evX, evSs, evVs, evParts, evPartsS, fillV, catV, gOf, Go.Bx.get, Go.Bx.own?, cellsV, isCell, cut, cutD, nth, nthD, dropV, takeV, dropD, takeDV, putV, toDs, St.stp, Ef.stp, Stp.lg, lgs, setE, applyU, setO, delO, newN, keysO, callU, Ef.bad, Option.getD_some, Option.getD_none, Option.map_some, Option.map_none, List.all_cons, List.all_nil, List.map_cons, List.map_nil, List.append_nil, List.nil_append, List.cons_append, List.length_cons, List.length_nil, List.mem_cons, List.not_mem_nil, Bool.and_true, Bool.true_and, Bool.and_self, Bool.not_true, Bool.not_false, Bool.or_self, Bool.or_false, Bool.false_or, Bool.false_eq_true, Bool.true_eq_false, Bool.cond_true_left, Bool.cond_false_right, cond_true, cond_false, reduceCtorEq, ↓reduceIte, if_true, if_false, true_and, and_true, and_self, false_and, and_false, or_false, false_or, not_false_eq_true, not_true_eq_false, forall_const, true_implies, false_implies, implies_true, imp_self, eq_self, ne_eq, Nat.reduceAdd, Nat.reduceSub, Nat.reduceMul, Nat.reduceMod, Nat.reduceLeDiff, Nat.reduceEqDiff, Nat.zero_add, Nat.add_zero, Nat.le_refl, Nat.succ_ne_self, Nat.one_ne_zero, Nat.zero_ne_one, Int.toNat_natCast, litRow, List.drop_succ_cons, List.drop_zero, List.take_succ_cons, List.take_zero, pubE, pubV, pubL, pubO, pubFE, pubFV, pubFL, pubFO, delO, eqS, eqB, Nat.reduceLT, Nat.not_lt_zero, Nat.sub_zero, decide_true, decide_false, true_or, or_true, Int.le_refl, Int.cast_ofNat_Int, Int.reduceToNat, Int.reduceLT, Int.reduceLE, beq_self_eq_true, Nat.mul_one, Nat.one_mul, Nat.zero_mul])
        | refine And.intro trivial ?_
        | refine And.intro rfl ?_
        | fail
    refine TR.cv1 hP rfl (sRun1 s x) trivial (by repeat' first | exact trivial | (intro _; assumption) | apply And.intro) (by simp only [Go.Bx.own?, ↓reduceIte, eq_self, Nat.reduceEqDiff]) ?_
    simp only [vcC_seq, vcC_reg, vcC_skip, vcC_cond, vcC_ret, seqK_nrm, seqK_ret, blkK_nrm, blkK_ret, lopK_ret, nrmK_app, vcR_nil, vcR_n, vcR_s, isCall, makes, hasU, newOf, opR, binI, pickV, evS, evV, evX, evSs, evVs, catV, gOf, Go.Bx.get, Go.Bx.own?, cellsV, nth, toDs, St.stp, Ef.stp, lgs, setE, applyU, setO, delO, newN, Option.getD_some, Option.map_some, List.append_nil, List.length_cons, List.length_nil, List.mem_cons, List.not_mem_nil, Bool.true_and, Bool.false_eq_true, Bool.cond_true_left, reduceCtorEq, ↓reduceIte, true_and, and_true, and_self, or_false, not_false_eq_true, forall_const, implies_true, imp_self, eq_self, Nat.reduceAdd, Nat.reduceEqDiff, Nat.zero_add, Nat.succ_ne_self, litRow, delO, Nat.reduceLT, or_true, Nat.mul_one]
    have hdl := hk.len
    repeat' first
        | (first
            | refine TR.p hP (by first | fail) (by repeat' first | exact trivial | (intro _; assumption) | apply And.intro) ?_
            | refine TR.gp hP rfl (fun _ => by first | fail) (fun _ => by repeat' first | exact trivial | (intro _; assumption) | apply And.intro) ?_
            | refine TR.pv hP rfl (by first | fail) trivial (by repeat' first | exact trivial | (intro _; assumption) | apply And.intro) ?_
           try simp only [↓evSo_some, vcC_seq, vcC_reg, vcC_drw, vcC_skip, vcC_cond, vcC_block, vcC_exit, vcC_ret, vcC_bad, seqK_nrm, seqK_exit, seqK_ret, blkK_nrm, blkK_exit, blkK_ret, lopK_exit, lopK_ret, lopX_exit, lopX_ret, jmpK_nrm, jmpK_exit, jmpK_ret, nrmK_app, drwK_app, initE, vcR_nil, vcR_n, vcR_s, isCall, makes, hasU, slK, newOf, opR, binI, pickV, evS, evV, evX, evSs, evVs, evParts, evPartsS, fillV, catV, gOf, Go.Bx.get, Go.Bx.own?, cellsV, isCell, cut, cutD, nth, nthD, dropV, takeV, dropD, takeDV, putV, toDs, St.stp, Ef.stp, Stp.lg, lgs, setE, applyU, setO, delO, newN, keysO, callU, Ef.bad, Option.getD_some, Option.getD_none, Option.map_some, Option.map_none, List.all_cons, List.all_nil, List.map_cons, List.map_nil, List.append_nil, List.nil_append, List.cons_append, List.length_cons, List.length_nil, List.mem_cons, List.not_mem_nil, Bool.and_true, Bool.true_and, Bool.and_self, Bool.not_true, Bool.not_false, Bool.or_self, Bool.or_false, Bool.false_or, Bool.false_eq_true, Bool.true_eq_false, Bool.cond_true_left, Bool.cond_false_right, cond_true, cond_false, reduceCtorEq, ↓reduceIte, if_true, if_false, true_and, and_true, and_self, false_and, and_false, or_false, false_or, not_false_eq_true, not_true_eq_false, forall_const, true_implies, false_implies, implies_true, imp_self, eq_self, ne_eq, Nat.reduceAdd, Nat.reduceSub, Nat.reduceMul, Nat.reduceMod, Nat.reduceLeDiff, Nat.reduceEqDiff, Nat.zero_add, Nat.add_zero, Nat.le_refl, Nat.succ_ne_self, Nat.one_ne_zero, Nat.zero_ne_one, Int.toNat_natCast, litRow, List.drop_succ_cons, List.drop_zero, List.take_succ_cons, List.take_zero, pubE, pubV, pubL, pubO, pubFE, pubFV, pubFL, pubFO, delO, eqS, eqB, Nat.reduceLT, Nat.not_lt_zero, Nat.sub_zero, decide_true, decide_false, true_or, or_true, Int.le_refl, Int.cast_ofNat_Int, Int.reduceToNat, Int.reduceLT, Int.reduceLE, beq_self_eq_true, Nat.mul_one, Nat.one_mul, Nat.zero_mul])
        | refine And.intro (fun h => ?_) (fun h => ?_)
        | refine And.intro (by first | omega | (simp only [maxLen, decide_eq_true_eq] at *; omega)) ?_
        | (refine TR.aslO rfl rfl rfl rfl trivial (Nat.le_of_ble_eq_true rfl) ?_
           try simp only [↓evSo_some, vcC_seq, vcC_reg, vcC_drw, vcC_skip, vcC_cond, vcC_block, vcC_exit, vcC_ret, vcC_bad, seqK_nrm, seqK_exit, seqK_ret, blkK_nrm, blkK_exit, blkK_ret, lopK_exit, lopK_ret, lopX_exit, lopX_ret, jmpK_nrm, jmpK_exit, jmpK_ret, nrmK_app, drwK_app, initE, vcR_nil, vcR_n, vcR_s, isCall, makes, hasU, slK, newOf, opR, binI, pickV, evS, evV, evX, evSs, evVs, evParts, evPartsS, fillV, catV, gOf, Go.Bx.get, Go.Bx.own?, cellsV, isCell, cut, cutD, nth, nthD, dropV, takeV, dropD, takeDV, putV, toDs, St.stp, Ef.stp, Stp.lg, lgs, setE, applyU, setO, delO, newN, keysO, callU, Ef.bad, Option.getD_some, Option.getD_none, Option.map_some, Option.map_none, List.all_cons, List.all_nil, List.map_cons, List.map_nil, List.append_nil, List.nil_append, List.cons_append, List.length_cons, List.length_nil, List.mem_cons, List.not_mem_nil, Bool.and_true, Bool.true_and, Bool.and_self, Bool.not_true, Bool.not_false, Bool.or_self, Bool.or_false, Bool.false_or, Bool.false_eq_true, Bool.true_eq_false, Bool.cond_true_left, Bool.cond_false_right, cond_true, cond_false, reduceCtorEq, ↓reduceIte, if_true, if_false, true_and, and_true, and_self, false_and, and_false, or_false, false_or, not_false_eq_true, not_true_eq_false, forall_const, true_implies, false_implies, implies_true, imp_self, eq_self, ne_eq, Nat.reduceAdd, Nat.reduceSub, Nat.reduceMul, Nat.reduceMod, Nat.reduceLeDiff, Nat.reduceEqDiff, Nat.zero_add, Nat.add_zero, Nat.le_refl, Nat.succ_ne_self, Nat.one_ne_zero, Nat.zero_ne_one, Int.toNat_natCast, litRow, List.drop_succ_cons, List.drop_zero, List.take_succ_cons, List.take_zero, pubE, pubV, pubL, pubO, pubFE, pubFV, pubFL, pubFO, delO, eqS, eqB, Nat.reduceLT, Nat.not_lt_zero, Nat.sub_zero, decide_true, decide_false, true_or, or_true, Int.le_refl, Int.cast_ofNat_Int, Int.reduceToNat, Int.reduceLT, Int.reduceLE, beq_self_eq_true, Nat.mul_one, Nat.one_mul, Nat.zero_mul])
        | refine And.intro trivial ?_
        | refine And.intro rfl ?_
        | fail
    · have he : (runR s x).1.2 = 1 := eq_of_beq h
      have hneg : x < 0 := by rcases hst with h | h; exact h.2; exact absurd he h.2.1
      (refine RetK.pure (by simp only [rs38, ressS, resS, and_self]) (VLe.tups ?_); simp only [ressV, resV, Go.Bx.get, ↓reduceIte, eq_self, Nat.succ_ne_self])
      rw [splitR, if_neg h0, if_pos (any_neg hmx hneg), he]; exact ⟨nilK, VLe.refl _, trivial⟩
    · have hne : (runR s x).1.2 ≠ 1 := by simpa using h
      have hst2 : SpI m l (k + 1) (dn ++ [(runR s x).1.1]) (runR s x).2 (over || ((runR s x).1.2 == 5)) := by
        rcases hst with h | h
        · exact absurd h.1 hne
        · exact h.2.2
      exact lopK.on (k + 1, dn ++ [(runR s x).1.1], (runR s x).2, (over || ((runR s x).1.2 == 5))) hst2 (by simp only; omega) (Wk.snoc (k := 56) _ hfn rfl rfl rfl rfl (OLe.app1 (cells := fun n => [.int .i64 n]) (fun i hi => by simp only [if_pos hi]) (by simp)) (by (simp only [EnvLe, VLe_refl, VLe_int, Go.Bx.get, reduceCtorEq, ↓reduceIte, true_and, and_true, eq_self, Nat.reduceEqDiff, Nat.succ_ne_self]) <;> (first | exact wS (by omega) | (rw [List.length_append]; exact wS (by omega)) | assumption)) (by simp only [OwnLe, OLe_refl, exists_eq_left', Option.some.injEq, Go.Bx.own?, ↓reduceIte, and_self, eq_self]) (by simp) (by simp only [EnvLe, VLe_refl, Go.Bx.get, reduceCtorEq, ↓reduceIte, and_self, eq_self, Nat.reduceEqDiff, Nat.succ_ne_self]) (by simp only [OwnLe, OLe_refl, exists_eq_left', Option.some.injEq, Go.Bx.own?, setO, delO, ↓reduceIte, and_self, eq_self, Nat.reduceEqDiff, delO]))
  have hkl : k = l.length := by have := of_decide_eq_false h1; have := hk.le; omega
  have hnn := hk.nn
  have hst := hk.st
  have hdl := hk.len
  rw [hkl, List.take_length] at hnn hst
  rw [hkl] at hdl
  clear hk h1
  refine ⟨fun h2 => ?_, fun h2 => ?_⟩
  · have h2' : 4000000000000000000 < l.sum ∨ 4000000000000000000 < m := by
      subst h2
      rcases hst with h | h
      · have := of_decide_eq_true h.2.2.2.symm; omega
      · omega
    (refine RetK.pure (by simp only [rs38, ressS, resS, and_self]) (VLe.tups ?_); simp only [ressV, resV, Go.Bx.get, ↓reduceIte, eq_self, Nat.succ_ne_self])
    rw [splitR, if_neg h0, if_neg (any_nonneg hnn), if_pos h2']; exact ⟨nilK, VLe.refl _, trivial⟩
  have hst : l.sum ≤ 4000000000000000000 ∧ dn = psums 0 l ∧ ¬ (m > 4000000000000000000) := by
    subst h2
    rcases hst with h | h
    · exact ⟨h.1, h.2.2.1, of_decide_eq_false h.2.2.2.symm⟩
    · cases h.2.2
  have h2' : ¬ (4000000000000000000 < l.sum ∨ 4000000000000000000 < m) := by omega
  have hS0 := sum_nonneg hnn
  have hbase : splitR m l = if l.sum = 0 then ([], 6) else (deal2 m l.sum 0 (psums 0 l), 0) := by
    rw [splitR, if_neg h0, if_neg (any_nonneg hnn), if_neg h2']
  have hlast : 0 < l.length → dn.getD (dn.length - 1) 0 = l.sum := fun h => by
    rw [hdl, hst.2.1, psums_last h]; omega
  have e1 : 0 < l.length → IntKind.i64.wrap ((dn.length : Int) - 1) = ((dn.length - 1 : Nat) : Int) := fun h => (wI (by omega)).trans (by omega)
  rcases Nat.eq_zero_or_pos l.length with hz | hpos
  · have hd0 : dn.length = 0 := by omega
    refine ⟨fun h => ?_, fun h => ?_, fun h => ?_, fun h => ?_⟩
    · exfalso; simp [hd0] at h
    · exfalso; simp [hd0] at h
    · have hl0 : l = [] := List.eq_nil_of_length_eq_zero hz
      (refine RetK.pure (by simp only [rs38, ressS, resS, and_self]) (VLe.tups ?_); simp only [ressV, resV, Go.Bx.get, ↓reduceIte, eq_self, Nat.succ_ne_self])
      rw [hbase, if_pos (by rw [hl0]; rfl)]; exact ⟨nilK, VLe.refl _, trivial⟩
    · exfalso; simp [hd0] at h
  simp only [e1 hpos, Int.toNat_natCast, hlast hpos]
  refine ⟨fun _ => ⟨by omega, by omega⟩, fun _ => by omega, fun h => ?_, fun h => ?_⟩
  · have h' : l.sum = 0 := by
      simp only [Bool.or_eq_true, beq_iff_eq] at h; omega
    (refine RetK.pure (by simp only [rs38, ressS, resS, and_self]) (VLe.tups ?_); simp only [ressV, resV, Go.Bx.get, ↓reduceIte, eq_self, Nat.succ_ne_self])
    rw [hbase, if_pos h']; exact ⟨nilK, VLe.refl _, trivial⟩
  have hSn : ¬ l.sum = 0 := by
    simp only [Bool.or_eq_false_iff, beq_eq_false_iff_ne, ne_eq] at h; exact h.2
  clear h
  rw [if_neg hSn] at hbase
  repeat' first
      | (first
          | refine TR.p hP (by first | fail) (by repeat' first | exact trivial | (intro _; assumption) | apply And.intro) ?_
          | refine TR.gp hP rfl (fun _ => by first | fail) (fun _ => by repeat' first | exact trivial | (intro _; assumption) | apply And.intro) ?_
          | refine TR.pv hP rfl (by first | fail) trivial (by repeat' first | exact trivial | (intro _; assumption) | apply And.intro) ?_
         try simp only [e1 hpos, Int.toNat_natCast, hlast hpos, ↓evSo_some, vcC_seq, vcC_reg, vcC_drw, vcC_skip, vcC_cond, vcC_block, vcC_exit, vcC_ret, vcC_bad, seqK_nrm, seqK_exit, seqK_ret, blkK_nrm, blkK_exit, blkK_ret, lopK_exit, lopK_ret, lopX_exit, lopX_ret, jmpK_nrm, jmpK_exit, jmpK_ret, nrmK_app, drwK_app, initE, vcR_nil, vcR_n, vcR_s, isCall, makes, hasU, slK, newOf, opR, binI, pickV, evS, evV, evX, evSs, evVs, evParts, evPartsS, fillV, catV, gOf, Go.Bx.get, Go.Bx.own?, cellsV, isCell, cut, cutD, nth, nthD, dropV, takeV, dropD, takeDV, putV, toDs, St.stp, Ef.stp, Stp.lg, lgs, setE, applyU, setO, delO, newN, keysO, callU, Ef.bad, Option.getD_some, Option.getD_none, Option.map_some, Option.map_none, List.all_cons, List.all_nil, List.map_cons, List.map_nil, List.append_nil, List.nil_append, List.cons_append, List.length_cons, List.length_nil, List.mem_cons, List.not_mem_nil, Bool.and_true, Bool.true_and, Bool.and_self, Bool.not_true, Bool.not_false, Bool.or_self, Bool.or_false, Bool.false_or, Bool.false_eq_true, Bool.true_eq_false, Bool.cond_true_left, Bool.cond_false_right, cond_true, cond_false, reduceCtorEq, ↓reduceIte, if_true, if_false, true_and, and_true, and_self, false_and, and_false, or_false, false_or, not_false_eq_true, not_true_eq_false, forall_const, true_implies, false_implies, implies_true, imp_self, eq_self, ne_eq, Nat.reduceAdd, Nat.reduceSub, Nat.reduceMul, Nat.reduceMod, Nat.reduceLeDiff, Nat.reduceEqDiff, Nat.zero_add, Nat.add_zero, Nat.le_refl, Nat.succ_ne_self, Nat.one_ne_zero, Nat.zero_ne_one, Int.toNat_natCast, litRow, List.drop_succ_cons, List.drop_zero, List.take_succ_cons, List.take_zero, pubE, pubV, pubL, pubO, pubFE, pubFV, pubFL, pubFO, delO, eqS, eqB, Nat.reduceLT, Nat.not_lt_zero, Nat.sub_zero, decide_true, decide_false, true_or, or_true, Int.le_refl, Int.cast_ofNat_Int, Int.reduceToNat, Int.reduceLT, Int.reduceLE, beq_self_eq_true, Nat.mul_one, Nat.one_mul, Nat.zero_mul])
      | refine And.intro (fun h => ?_) (fun h => ?_)
      | refine And.intro (by first | omega | (simp only [maxLen, decide_eq_true_eq, decide_eq_false_iff_not] at *; omega)) ?_
      | (refine TR.aslO rfl rfl rfl rfl trivial (Nat.le_of_ble_eq_true rfl) ?_
         try simp only [e1 hpos, Int.toNat_natCast, hlast hpos, ↓evSo_some, vcC_seq, vcC_reg, vcC_drw, vcC_skip, vcC_cond, vcC_block, vcC_exit, vcC_ret, vcC_bad, seqK_nrm, seqK_exit, seqK_ret, blkK_nrm, blkK_exit, blkK_ret, lopK_exit, lopK_ret, lopX_exit, lopX_ret, jmpK_nrm, jmpK_exit, jmpK_ret, nrmK_app, drwK_app, initE, vcR_nil, vcR_n, vcR_s, isCall, makes, hasU, slK, newOf, opR, binI, pickV, evS, evV, evX, evSs, evVs, evParts, evPartsS, fillV, catV, gOf, Go.Bx.get, Go.Bx.own?, cellsV, isCell, cut, cutD, nth, nthD, dropV, takeV, dropD, takeDV, putV, toDs, St.stp, Ef.stp, Stp.lg, lgs, setE, applyU, setO, delO, newN, keysO, callU, Ef.bad, Option.getD_some, Option.getD_none, Option.map_some, Option.map_none, List.all_cons, List.all_nil, List.map_cons, List.map_nil, List.append_nil, List.nil_append, List.cons_append, List.length_cons, List.length_nil, List.mem_cons, List.not_mem_nil, Bool.and_true, Bool.true_and, Bool.and_self, Bool.not_true, Bool.not_false, Bool.or_self, Bool.or_false, Bool.false_or, Bool.false_eq_true, Bool.true_eq_false, Bool.cond_true_left, Bool.cond_false_right, cond_true, cond_false, reduceCtorEq, ↓reduceIte, if_true, if_false, true_and, and_true, and_self, false_and, and_false, or_false, false_or, not_false_eq_true, not_true_eq_false, forall_const, true_implies, false_implies, implies_true, imp_self, eq_self, ne_eq, Nat.reduceAdd, Nat.reduceSub, Nat.reduceMul, Nat.reduceMod, Nat.reduceLeDiff, Nat.reduceEqDiff, Nat.zero_add, Nat.add_zero, Nat.le_refl, Nat.succ_ne_self, Nat.one_ne_zero, Nat.zero_ne_one, Int.toNat_natCast, litRow, List.drop_succ_cons, List.drop_zero, List.take_succ_cons, List.take_zero, pubE, pubV, pubL, pubO, pubFE, pubFV, pubFL, pubFO, delO, eqS, eqB, Nat.reduceLT, Nat.not_lt_zero, Nat.sub_zero, decide_true, decide_false, true_or, or_true, Int.le_refl, Int.cast_ofNat_Int, Int.reduceToNat, Int.reduceLT, Int.reduceLE, beq_self_eq_true, Nat.mul_one, Nat.one_mul, Nat.zero_mul])
      | refine And.intro trivial ?_
      | refine And.intro rfl ?_
      | fail
  refine vcC.loop (X := List Int × Int) (fun x => ⟨[(0, .d (.int .i64 m)), (13, .d (.int .i64 l.sum)), (14, .osl 81), (15, .d (.int .i64 x.2)), (82, .osl 1000), (83, .d (.int .i64 dn.length)), (84, .d (.int .i64 x.1.length))],
        [(1000, .row 3 1 dn.length (fun i => [.int .i64 (dn.getD i 0)])), (81, .row 3 1 dn.length (fun i => [.int .i64 (x.1.getD i 0)]))], [1000, 81]⟩)
      (fun x => x.1.length ≤ dn.length ∧ deal2 m l.sum 0 dn = x.1 ++ deal2 m l.sum x.2 (dn.drop x.1.length)) (fun x => dn.length - x.1.length) ([], 0) ⟨Nat.zero_le _, rfl⟩
      (Wk.of _ hfn rfl (by simp only [EnvLe, VLe_refl, Go.Bx.get, List.length_nil, reduceCtorEq, ↓reduceIte, and_self, eq_self, Nat.reduceEqDiff, Nat.succ_ne_self, Int.cast_ofNat_Int]) (by simp only [OwnLe, OLe_refl, exists_eq_left', Option.some.injEq, Go.Bx.own?, ↓reduceIte, true_and, and_true, eq_self, Nat.reduceEqDiff]; exact OLe.row rfl fun i _ => by simp)) ?_
  rintro ⟨out, dealt⟩ ⟨hk, he⟩
  simp only at hk he
  simp only [vcC_seq, vcC_reg, vcC_skip, vcC_cond, vcC_block, vcC_exit, vcC_ret, seqK_nrm, seqK_exit, blkK_exit, lopK_exit, nrmK_app, vcR_nil, vcR_n, isCall, makes, newOf, opR, binI, evS, evV, evX, Go.Bx.get, Go.Bx.own?, cutD, nthD, St.stp, Ef.stp, lgs, setE, applyU, newN, Bool.false_eq_true, reduceCtorEq, ↓reduceIte, true_and, and_true, and_self, eq_self, Nat.reduceEqDiff, Nat.zero_add, Nat.le_refl, Nat.succ_ne_self, Int.toNat_natCast]
  refine ⟨fun h1 => ?_, fun h1 => ?_⟩
  · have hlt : out.length < dn.length := by have := of_decide_eq_true h1; omega
    obtain ⟨x, hd, hg, hmx, hat⟩ := drop_at hlt
    have hxb := psums_le hnn 0 (by omega) x (by rw [← hst.2.1]; exact hmx)
    rw [hd, deal2] at he
    simp only [hg]
    repeat' first
        | (first
            | refine TR.p hP (by first | exact sDown m x l.sum hm (by omega) (by omega)) (by repeat' first | exact trivial | (intro _; assumption) | apply And.intro) ?_
            | refine TR.gp hP rfl (fun _ => by first | exact sDown m x l.sum hm (by omega) (by omega)) (fun _ => by repeat' first | exact trivial | (intro _; assumption) | apply And.intro) ?_
            | refine TR.pv hP rfl (by first | exact sDown m x l.sum hm (by omega) (by omega)) trivial (by repeat' first | exact trivial | (intro _; assumption) | apply And.intro) ?_
           try simp only [vcC_reg, seqK_nrm, blkK_nrm, nrmK_app, vcR_nil, vcR_n, isCall, makes, newOf, opR, binI, evS, evV, evX, Go.Bx.get, Go.Bx.own?, cellsV, nth, toDs, St.stp, Ef.stp, lgs, setE, applyU, setO, newN, Option.map_some, List.length_cons, List.length_nil, List.mem_cons, List.not_mem_nil, Bool.false_eq_true, reduceCtorEq, ↓reduceIte, true_and, and_true, and_self, or_false, eq_self, Nat.reduceAdd, Nat.reduceEqDiff, Nat.zero_add, Nat.le_refl, Nat.succ_ne_self, Int.toNat_natCast, Nat.reduceLT, or_true])
        | refine And.intro (fun h => ?_) (fun h => ?_)
        | refine And.intro (by first | omega | (simp only [maxLen, decide_eq_true_eq, decide_eq_false_iff_not] at *; omega)) ?_
        | (refine TR.aslO rfl rfl rfl rfl trivial (Nat.le_of_ble_eq_true rfl) ?_
           try simp only [hg, ↓evSo_some, vcC_seq, vcC_reg, vcC_drw, vcC_skip, vcC_cond, vcC_block, vcC_exit, vcC_ret, vcC_bad, seqK_nrm, seqK_exit, seqK_ret, blkK_nrm, blkK_exit, blkK_ret, lopK_exit, lopK_ret, lopX_exit, lopX_ret, jmpK_nrm, jmpK_exit, jmpK_ret, nrmK_app, drwK_app, initE, vcR_nil, vcR_n, vcR_s, isCall, makes, hasU, slK, newOf, opR, binI, pickV, evS, evV, evX, evSs, evVs, evParts, evPartsS, fillV, catV, gOf, Go.Bx.get, Go.Bx.own?, cellsV, isCell, cut, cutD, nth, nthD, dropV, takeV, dropD, takeDV, putV, toDs, St.stp, Ef.stp, Stp.lg, lgs, setE, applyU, setO, delO, newN, keysO, callU, Ef.bad, Option.getD_some, Option.getD_none, Option.map_some, Option.map_none, List.all_cons, List.all_nil, List.map_cons, List.map_nil, List.append_nil, List.nil_append, List.cons_append, List.length_cons, List.length_nil, List.mem_cons, List.not_mem_nil, Bool.and_true, Bool.true_and, Bool.and_self, Bool.not_true, Bool.not_false, Bool.or_self, Bool.or_false, Bool.false_or, Bool.false_eq_true, Bool.true_eq_false, Bool.cond_true_left, Bool.cond_false_right, cond_true, cond_false, reduceCtorEq, ↓reduceIte, if_true, if_false, true_and, and_true, and_self, false_and, and_false, or_false, false_or, not_false_eq_true, not_true_eq_false, forall_const, true_implies, false_implies, implies_true, imp_self, eq_self, ne_eq, Nat.reduceAdd, Nat.reduceSub, Nat.reduceMul, Nat.reduceMod, Nat.reduceLeDiff, Nat.reduceEqDiff, Nat.zero_add, Nat.add_zero, Nat.le_refl, Nat.succ_ne_self, Nat.one_ne_zero, Nat.zero_ne_one, Int.toNat_natCast, litRow, List.drop_succ_cons, List.drop_zero, List.take_succ_cons, List.take_zero, pubE, pubV, pubL, pubO, pubFE, pubFV, pubFL, pubFO, delO, eqS, eqB, Nat.reduceLT, Nat.not_lt_zero, Nat.sub_zero, decide_true, decide_false, true_or, or_true, Int.le_refl, Int.cast_ofNat_Int, Int.reduceToNat, Int.reduceLT, Int.reduceLE, beq_self_eq_true, Nat.mul_one, Nat.one_mul, Nat.zero_mul])
        | refine And.intro trivial ?_
        | refine And.intro rfl ?_
        | fail
    exact lopK.on (out ++ [IntKind.i64.wrap ((downR m x l.sum).1 - dealt)], (downR m x l.sum).1) ⟨by simp; omega, by rw [he]; simp⟩ (by simp; omega) (Wk.of _ hfn rfl (by (simp only [EnvLe, VLe_refl, VLe_int, Go.Bx.get, reduceCtorEq, ↓reduceIte, true_and, and_true, eq_self, Nat.reduceEqDiff, Nat.succ_ne_self]) <;> (first | exact wS (by omega) | (rw [List.length_append]; exact wS (by omega)) | assumption)) (by simp only [OwnLe, OLe_refl, exists_eq_left', Option.some.injEq, Go.Bx.own?, ↓reduceIte, true_and, and_true, eq_self, Nat.reduceEqDiff]; exact OLe.snoc))
  · have hkl : out.length = dn.length := by have := of_decide_eq_false h1; omega
    rw [hkl, List.drop_length, deal2, List.append_nil] at he
    repeat' first
        | (first
            | refine TR.p hP (by first | fail) (by repeat' first | exact trivial | (intro _; assumption) | apply And.intro) ?_
            | refine TR.gp hP rfl (fun _ => by first | fail) (fun _ => by repeat' first | exact trivial | (intro _; assumption) | apply And.intro) ?_
            | refine TR.pv hP rfl (by first | fail) trivial (by repeat' first | exact trivial | (intro _; assumption) | apply And.intro) ?_
           try simp only [↓evSo_some, vcC_seq, vcC_reg, vcC_drw, vcC_skip, vcC_cond, vcC_block, vcC_exit, vcC_ret, vcC_bad, seqK_nrm, seqK_exit, seqK_ret, blkK_nrm, blkK_exit, blkK_ret, lopK_exit, lopK_ret, lopX_exit, lopX_ret, jmpK_nrm, jmpK_exit, jmpK_ret, nrmK_app, drwK_app, initE, vcR_nil, vcR_n, vcR_s, isCall, makes, hasU, slK, newOf, opR, binI, pickV, evS, evV, evX, evSs, evVs, evParts, evPartsS, fillV, catV, gOf, Go.Bx.get, Go.Bx.own?, cellsV, isCell, cut, cutD, nth, nthD, dropV, takeV, dropD, takeDV, putV, toDs, St.stp, Ef.stp, Stp.lg, lgs, setE, applyU, setO, delO, newN, keysO, callU, Ef.bad, Option.getD_some, Option.getD_none, Option.map_some, Option.map_none, List.all_cons, List.all_nil, List.map_cons, List.map_nil, List.append_nil, List.nil_append, List.cons_append, List.length_cons, List.length_nil, List.mem_cons, List.not_mem_nil, Bool.and_true, Bool.true_and, Bool.and_self, Bool.not_true, Bool.not_false, Bool.or_self, Bool.or_false, Bool.false_or, Bool.false_eq_true, Bool.true_eq_false, Bool.cond_true_left, Bool.cond_false_right, cond_true, cond_false, reduceCtorEq, ↓reduceIte, if_true, if_false, true_and, and_true, and_self, false_and, and_false, or_false, false_or, not_false_eq_true, not_true_eq_false, forall_const, true_implies, false_implies, implies_true, imp_self, eq_self, ne_eq, Nat.reduceAdd, Nat.reduceSub, Nat.reduceMul, Nat.reduceMod, Nat.reduceLeDiff, Nat.reduceEqDiff, Nat.zero_add, Nat.add_zero, Nat.le_refl, Nat.succ_ne_self, Nat.one_ne_zero, Nat.zero_ne_one, Int.toNat_natCast, litRow, List.drop_succ_cons, List.drop_zero, List.take_succ_cons, List.take_zero, pubE, pubV, pubL, pubO, pubFE, pubFV, pubFL, pubFO, delO, eqS, eqB, Nat.reduceLT, Nat.not_lt_zero, Nat.sub_zero, decide_true, decide_false, true_or, or_true, Int.le_refl, Int.cast_ofNat_Int, Int.reduceToNat, Int.reduceLT, Int.reduceLE, beq_self_eq_true, Nat.mul_one, Nat.one_mul, Nat.zero_mul])
        | refine And.intro (fun h => ?_) (fun h => ?_)
        | refine And.intro (by first | omega | (simp only [maxLen, decide_eq_true_eq, decide_eq_false_iff_not] at *; omega)) ?_
        | (refine TR.aslO rfl rfl rfl rfl trivial (Nat.le_of_ble_eq_true rfl) ?_
           try simp only [↓evSo_some, vcC_seq, vcC_reg, vcC_drw, vcC_skip, vcC_cond, vcC_block, vcC_exit, vcC_ret, vcC_bad, seqK_nrm, seqK_exit, seqK_ret, blkK_nrm, blkK_exit, blkK_ret, lopK_exit, lopK_ret, lopX_exit, lopX_ret, jmpK_nrm, jmpK_exit, jmpK_ret, nrmK_app, drwK_app, initE, vcR_nil, vcR_n, vcR_s, isCall, makes, hasU, slK, newOf, opR, binI, pickV, evS, evV, evX, evSs, evVs, evParts, evPartsS, fillV, catV, gOf, Go.Bx.get, Go.Bx.own?, cellsV, isCell, cut, cutD, nth, nthD, dropV, takeV, dropD, takeDV, putV, toDs, St.stp, Ef.stp, Stp.lg, lgs, setE, applyU, setO, delO, newN, keysO, callU, Ef.bad, Option.getD_some, Option.getD_none, Option.map_some, Option.map_none, List.all_cons, List.all_nil, List.map_cons, List.map_nil, List.append_nil, List.nil_append, List.cons_append, List.length_cons, List.length_nil, List.mem_cons, List.not_mem_nil, Bool.and_true, Bool.true_and, Bool.and_self, Bool.not_true, Bool.not_false, Bool.or_self, Bool.or_false, Bool.false_or, Bool.false_eq_true, Bool.true_eq_false, Bool.cond_true_left, Bool.cond_false_right, cond_true, cond_false, reduceCtorEq, ↓reduceIte, if_true, if_false, true_and, and_true, and_self, false_and, and_false, or_false, false_or, not_false_eq_true, not_true_eq_false, forall_const, true_implies, false_implies, implies_true, imp_self, eq_self, ne_eq, Nat.reduceAdd, Nat.reduceSub, Nat.reduceMul, Nat.reduceMod, Nat.reduceLeDiff, Nat.reduceEqDiff, Nat.zero_add, Nat.add_zero, Nat.le_refl, Nat.succ_ne_self, Nat.one_ne_zero, Nat.zero_ne_one, Int.toNat_natCast, litRow, List.drop_succ_cons, List.drop_zero, List.take_succ_cons, List.take_zero, pubE, pubV, pubL, pubO, pubFE, pubFV, pubFL, pubFO, delO, eqS, eqB, Nat.reduceLT, Nat.not_lt_zero, Nat.sub_zero, decide_true, decide_false, true_or, or_true, Int.le_refl, Int.cast_ofNat_Int, Int.reduceToNat, Int.reduceLT, Int.reduceLE, beq_self_eq_true, Nat.mul_one, Nat.one_mul, Nat.zero_mul])
        | refine And.intro trivial ?_
        | refine And.intro rfl ?_
        | fail
    refine RetK.mk _ (Wk.pub 81 rfl) (by simp only [rs38, ressS, resS, delO, ↓reduceIte, and_self, eq_self, Nat.reduceEqDiff, pubE, pubV, pubO, delO]) ?_ trivial
    simp only [rs38, retV, ressV, resV, Go.Bx.get, ↓reduceIte, eq_self, Nat.reduceEqDiff, Nat.succ_ne_self, pubE, pubV]
    rw [hbase, ← hst.2.1, he]
    exact VLe.tups ⟨VLe.sl hkl.symm (fun _ => rfl) id fun i hi => rfl, VLe.refl _, trivial⟩


end Go.Proofs.Ythkfedghiklmeaa
