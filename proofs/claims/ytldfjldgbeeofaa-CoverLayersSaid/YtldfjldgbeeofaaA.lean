import Derived.Test.YtldfjldgbeeofaaN
namespace Go.Proofs.Ytldfjldgbeeofaa
open Go.Bx
set_option maxRecDepth 10000

structure Cv where
  pe : Int
  li : Int
  ag : Int
  de : Int
  sh : Int
def cC (c : Cv) : List V := [.d (.int .i64 c.pe), .d (.int .i64 c.li), .d (.int .i64 c.ag), .d (.int .i64 c.de), .d (.int .i64 c.sh)]
def vC (c : Cv) : V := .ag (cC c)
/-- Are the numbers sorted, from the first up to the k-th? -/
def sdR (l : List Int) : Nat → Bool
  | 0 => true
  | k + 1 => !(decide (l.getD (k + 1) 0 < l.getD k 0)) && sdR l k
theorem s20 (a : Int) : Ctr Try.prog 20 [.d (.int .i64 a)] [] (.d (.bool false)) [] [] := by
  refine pure20 (by simp) rfl rfl ?_
  intro c hP hfn
  simp only [c20, vcC_seq, vcC_reg, vcC_ret, seqK_nrm, nrmK_app, initE, vcR_nil, vcR_n, isCall, makes, newOf, opR, binI, evS, evV, evX, Go.Bx.get, St.stp, Ef.stp, lgs, setE, applyU, newN, Bool.false_eq_true, reduceCtorEq, ↓reduceIte, true_and, and_self, eq_self, Nat.succ_ne_self]
  exact RetK.pure (by simp only [rs20, ressS, resS, and_self]) (by (simp only [rs20, retV, resV, Go.Bx.get, ↓reduceIte, eq_self, VLe_bool, Go.Bx.get, ↓reduceIte, eq_self]) <;> (first | simp))
theorem s18 (a b : Int) : Ctr Try.prog 18 [.d (.int .i64 a), .d (.int .i64 b)] [] (.d (.bool (decide (a < b)))) [] [] := by
  refine pure18 (by simp) rfl rfl ?_
  intro c hP hfn
  simp only [c18, vcC_seq, vcC_reg, seqK_nrm, nrmK_app, initE, vcR_nil, vcR_n, isCall, makes, newOf, opR, evS, evV, evX, Go.Bx.get, St.stp, Ef.stp, lgs, setE, applyU, newN, Bool.false_eq_true, reduceCtorEq, ↓reduceIte, true_and, eq_self, Nat.zero_add]
  repeat' first
      | (first
          | refine TR.p hP (by first | exact s20 ..) (by repeat' first | exact trivial | (intro _; assumption) | apply And.intro) ?_
          | refine TR.gp hP rfl (fun _ => by first | exact s20 ..) (fun _ => by repeat' first | exact trivial | (intro _; assumption) | apply And.intro) ?_
          | refine TR.pv hP rfl (by first | exact s20 ..) trivial (by repeat' first | exact trivial | (intro _; assumption) | apply And.intro) ?_
         try simp only [vcC_ret, seqK_nrm, nrmK_app, vcR_nil, vcR_n, vcR_s, isCall, makes, hasU, newOf, opR, binI, pickV, evS, evV, evX, gOf, Go.Bx.get, St.stp, Ef.stp, lgs, setE, applyU, newN, Option.getD_some, List.not_mem_nil, Bool.true_and, Bool.and_self, Bool.not_false, Bool.false_eq_true, cond_false, reduceCtorEq, ↓reduceIte, true_and, and_self, not_false_eq_true, forall_const, implies_true, imp_self, eq_self, Nat.reduceEqDiff, Nat.succ_ne_self, Nat.zero_ne_one])
      | refine And.intro (fun h => ?_) (fun h => ?_)
      | refine And.intro (by first | omega | (simp only [maxLen, decide_eq_true_eq, decide_eq_false_iff_not] at *; omega)) ?_
      | refine And.intro rfl ?_
      | fail
  exact RetK.pure (by simp only [rs18, ressS, resS, and_self]) (by (simp only [rs18, retV, resV, Go.Bx.get, ↓reduceIte, eq_self, VLe_refl, Go.Bx.get, ↓reduceIte, eq_self]) <;> (first | simp))
theorem s13 (l : List Int) (hl : l.length ≤ 9223372036854775807) : Ctr Try.prog 13 [.d (slK .i64 l)] [] (.d (.bool (sdR l (l.length - 1)))) [] [] := by
  refine pure13 (by simp) rfl rfl ?_
  intro c hP hfn
  simp only [c13, vcC_seq, vcC_reg, vcC_block, seqK_nrm, nrmK_app, initE, vcR_nil, vcR_n, isCall, makes, slK, newOf, opR, binI, evS, evV, evX, Go.Bx.get, St.stp, Ef.stp, lgs, setE, applyU, newN, Bool.false_eq_true, reduceCtorEq, ↓reduceIte, true_and, and_self, eq_self]
  refine vcC.loop (X := Int) (fun x => ⟨[(0, .d (slK .i64 l)), (3, .d (.int .i64 x))], [], []⟩)
    (fun x => -1 ≤ x ∧ x < l.length ∧ sdR l (l.length - 1) = sdR l x.toNat) (fun x => x.toNat) ((l.length : Int) - 1) ⟨by omega, by omega, by congr 1; omega⟩ (Wk.of [] hfn rfl (by simp only [EnvLe, VLe_refl, VLe_int, slK, Go.Bx.get, reduceCtorEq, ↓reduceIte, true_and, and_true, eq_self]; exact wI (by omega)) (by simp only [OwnLe])) ?_
  rintro x ⟨h0, h1, he⟩
  simp only [vcC_seq, vcC_reg, vcC_drw, vcC_skip, vcC_cond, vcC_block, vcC_exit, vcC_ret, seqK_nrm, seqK_exit, blkK_exit, lopK_exit, nrmK_app, vcR_nil, vcR_n, isCall, makes, slK, newOf, opR, binI, evS, evV, evX, Go.Bx.get, cutD, nthD, St.stp, Ef.stp, Stp.lg, lgs, setE, applyU, newN, List.map_nil, List.append_nil, List.nil_append, List.cons_append, List.length_cons, List.length_nil, Bool.false_eq_true, reduceCtorEq, ↓reduceIte, true_and, and_true, and_self, eq_self, Nat.reduceEqDiff, Nat.zero_add, Nat.le_refl, Nat.succ_ne_self]
  refine ⟨fun h2 => ?_, fun h2 => ?_⟩
  · have h2 := of_decide_eq_true h2
    have e1 : IntKind.i64.wrap (x - 1) = x - 1 := wI (by omega)
    have e2 : x.toNat = (x - 1).toNat + 1 := by omega
    rw [e2, sdR, ← e2] at he
    simp only [e1]
    repeat' first
        | (first
            | refine TR.p hP (by first | exact s18 ..) (by repeat' first | exact trivial | (intro _; assumption) | apply And.intro) ?_
            | refine TR.gp hP rfl (fun _ => by first | exact s18 ..) (fun _ => by repeat' first | exact trivial | (intro _; assumption) | apply And.intro) ?_
            | refine TR.pv hP rfl (by first | exact s18 ..) trivial (by repeat' first | exact trivial | (intro _; assumption) | apply And.intro) ?_
           try simp only [e1, vcC_seq, vcC_reg, vcC_skip, vcC_cond, vcC_ret, seqK_nrm, seqK_ret, blkK_nrm, blkK_ret, lopK_ret, nrmK_app, drwK_app, vcR_nil, vcR_n, isCall, makes, newOf, opR, binI, evS, evV, evX, Go.Bx.get, St.stp, Ef.stp, lgs, setE, applyU, newN, List.nil_append, List.cons_append, Bool.false_eq_true, reduceCtorEq, ↓reduceIte, true_and, and_self, eq_self, Nat.reduceEqDiff])
        | refine And.intro (fun h => ?_) (fun h => ?_)
        | refine And.intro (by first | omega | (simp only [decide_eq_true_eq] at *; omega)) ?_
        | refine And.intro rfl ?_
        | fail
    · exact RetK.pure (by simp only [rs13, ressS, resS, and_self]) (by (simp only [rs13, retV, resV, Go.Bx.get, ↓reduceIte, eq_self, VLe_bool, Go.Bx.get, ↓reduceIte, eq_self]) <;> (first | (rw [he, h]; rfl)))
    · rw [h] at he
      exact lopK.on (x - 1) ⟨by omega, by omega, by rw [he]; rfl⟩ (by omega) (Wk.of [] hfn rfl (by simp only [EnvLe, VLe_refl, Go.Bx.get, reduceCtorEq, ↓reduceIte, and_self, eq_self]) (by simp only [OwnLe]))
  · have h2 := of_decide_eq_false h2
    have e2 : x.toNat = 0 := by omega
    rw [e2, sdR] at he
    exact RetK.pure (by simp only [rs13, ressS, resS, and_self]) (by (simp only [rs13, retV, resV, Go.Bx.get, ↓reduceIte, eq_self, VLe_bool, Go.Bx.get, ↓reduceIte, eq_self]) <;> (first | rw [he]))
theorem s13' {full : Bool} {n : Nat} {ds : List D} {l : List Int} (h : LitI .i64 ds l) (hn : n = l.length) (hl : l.length ≤ 9223372036854775807) : Ctr Try.prog 13 [.d (.sl full 1 n (litRow 1 ds))] [] (.d (.bool (sdR l (l.length - 1)))) [] [] :=
  (s13 l hl).arg ⟨h.vle hn, trivial⟩
def rightC (c : Cv) : Bool := decide (c.pe ≥ 0) && decide (c.pe < 8) && (decide (c.sh ≥ 1) && decide (c.sh ≤ 10000)) && sdR [0, c.de, IntKind.i64.wrap (c.li - 1), IntKind.i64.wrap (c.ag - 1), 999999999999999] 4 && decide (c.de < c.li)
theorem s9 (k : Cv) : Ctr Try.prog 9 [vC k] [] (.d (.bool (rightC k))) [] [] := by
  refine pure9 (by simp) rfl rfl ?_
  intro c hP hfn
  simp only [c9, vC, cC, vcC_seq, vcC_reg, seqK_nrm, nrmK_app, initE, vcR_nil, vcR_n, vcR_s, isCall, makes, hasU, newOf, opR, binI, pickV, evS, evV, evX, evSs, evVs, catV, gOf, Go.Bx.get, Go.Bx.own?, cellsV, isCell, cut, nth, toDs, St.stp, Ef.stp, lgs, setE, applyU, setO, newN, Option.getD_some, Option.map_some, List.all_cons, List.all_nil, List.append_nil, List.nil_append, List.cons_append, List.length_cons, List.length_nil, List.mem_cons, List.not_mem_nil, Bool.true_and, Bool.and_self, Bool.false_eq_true, Bool.cond_false_right, ↓reduceIte, true_and, and_true, and_self, or_false, not_false_eq_true, forall_const, implies_true, imp_self, eq_self, Nat.reduceAdd, Nat.reduceLeDiff, Nat.reduceEqDiff, Nat.zero_add, Nat.add_zero, Nat.le_refl, Nat.succ_ne_self]
  repeat' first
      | (first
          | refine TR.p hP (by first | exact s13' (by repeat constructor) (by rfl) (by simp)) (by repeat' first | exact trivial | (intro _; assumption) | apply And.intro) ?_
          | refine TR.gp hP rfl (fun _ => by first | exact s13' (by repeat constructor) (by rfl) (by simp)) (fun _ => by repeat' first | exact trivial | (intro _; assumption) | apply And.intro) ?_
          | refine TR.pv hP rfl (by first | exact s13' (by repeat constructor) (by rfl) (by simp)) trivial (by repeat' first | exact trivial | (intro _; assumption) | apply And.intro) ?_
         try simp only [vcC_ret, seqK_nrm, nrmK_app, vcR_nil, vcR_n, vcR_s, isCall, makes, hasU, newOf, opR, binI, pickV, evS, evV, evX, gOf, Go.Bx.get, Go.Bx.own?, cut, nth, St.stp, Ef.stp, lgs, setE, applyU, newN, Option.getD_some, List.length_cons, List.length_nil, List.mem_cons, List.not_mem_nil, Bool.true_and, Bool.false_eq_true, Bool.cond_false_right, ↓reduceIte, true_and, and_true, and_self, or_false, not_false_eq_true, forall_const, implies_true, imp_self, eq_self, Nat.reduceAdd, Nat.reduceSub, Nat.reduceLeDiff, Nat.reduceEqDiff, Nat.zero_add, Nat.succ_ne_self])
      | refine And.intro (fun h => ?_) (fun h => ?_)
      | refine And.intro (by first | omega | (simp only [maxLen, decide_eq_true_eq, decide_eq_false_iff_not] at *; omega)) ?_
      | refine And.intro rfl ?_
      | fail
  exact RetK.pure (by simp only [rs9, ressS, resS, and_self]) (by (simp only [rs9, retV, resV, Go.Bx.get, ↓reduceIte, eq_self, VLe_bool, Go.Bx.get, ↓reduceIte, eq_self]) <;> (first | rfl))
def leastR (a : Int) (l : List Int) : Int := max (l.foldl min a) 0
theorem s16 (a : Int) (l : List Int) (hl : l.length ≤ 9223372036854775807) : Ctr Try.prog 16 [.d (.int .i64 a), .d (slK .i64 l)] [] (.d (.int .i64 (leastR a l))) [] [] := by
  refine pure16 (by simp) rfl rfl ?_
  intro c hP hfn
  simp only [c16, vcC_seq, vcC_reg, vcC_block, seqK_nrm, nrmK_app, initE, vcR_nil, vcR_n, isCall, makes, slK, newOf, opR, evS, evV, evX, Go.Bx.get, St.stp, Ef.stp, lgs, setE, applyU, newN, Bool.false_eq_true, ↓reduceIte, true_and, eq_self, Nat.reduceEqDiff, Nat.zero_add, Nat.zero_ne_one]
  refine vcC.loop (X := Nat × Int) (fun x => ⟨[(0, .d (.int .i64 x.2)), (7, .d (slK .i64 l)), (8, .d (.int .i64 l.length)), (9, .d (.int .i64 x.1))], [], []⟩)
    (fun x => x.1 ≤ l.length ∧ l.foldl min a = (l.drop x.1).foldl min x.2) (fun x => l.length - x.1) (0, a) ⟨Nat.zero_le _, rfl⟩ (Wk.of [] hfn rfl (by (simp only [EnvLe, VLe_refl, slK, Go.Bx.get, reduceCtorEq, ↓reduceIte, and_self, eq_self, Nat.reduceEqDiff, Nat.succ_ne_self, Int.cast_ofNat_Int]) <;> (first | exact wS (by omega) | (rw [List.length_append]; exact wS (by omega)) | assumption)) (by simp only [OwnLe])) ?_
  rintro ⟨k, n⟩ ⟨hk, he⟩
  simp only at hk he
  simp only [vcC_seq, vcC_reg, vcC_skip, vcC_cond, vcC_block, vcC_exit, vcC_ret, seqK_nrm, seqK_exit, blkK_nrm, blkK_exit, lopK_exit, nrmK_app, vcR_nil, vcR_n, isCall, makes, slK, newOf, opR, binI, evS, evV, evX, Go.Bx.get, cutD, nthD, St.stp, Ef.stp, lgs, setE, applyU, newN, List.length_cons, List.length_nil, Bool.false_eq_true, reduceCtorEq, ↓reduceIte, true_and, and_true, and_self, eq_self, Nat.reduceEqDiff, Nat.zero_add, Nat.le_refl, Nat.succ_ne_self, Int.toNat_natCast]
  refine ⟨fun h1 => ?_, fun h1 => ?_⟩
  · have hlt : k < l.length := by have := of_decide_eq_true h1; omega
    obtain ⟨x, hd, hg, -, -⟩ := drop_at hlt
    simp only [hg]
    rw [hd, List.foldl_cons] at he
    repeat' first
        | (first
            | refine TR.p hP (by first | fail) (by repeat' first | exact trivial | (intro _; assumption) | apply And.intro) ?_
            | refine TR.gp hP rfl (fun _ => by first | fail) (fun _ => by repeat' first | exact trivial | (intro _; assumption) | apply And.intro) ?_
            | refine TR.pv hP rfl (by first | fail) trivial (by repeat' first | exact trivial | (intro _; assumption) | apply And.intro) ?_
           try simp only [↓evSo_some, vcC_seq, vcC_reg, vcC_drw, vcC_skip, vcC_cond, vcC_block, vcC_exit, vcC_ret, vcC_bad, seqK_nrm, seqK_exit, seqK_ret, blkK_nrm, blkK_exit, blkK_ret, lopK_exit, lopK_ret, lopX_exit, lopX_ret, nrmK_app, drwK_app, initE, vcR_nil, vcR_n, vcR_s, isCall, makes, hasU, slK, newOf, opR, binI, pickV, evS, evV, evX, evSs, evVs, evParts, evPartsS, fillV, catV, gOf, Go.Bx.get, Go.Bx.own?, cellsV, isCell, cut, cutD, nth, nthD, dropV, takeV, dropD, takeDV, putV, toDs, St.stp, Ef.stp, Stp.lg, lgs, setE, applyU, setO, delO, newN, keysO, callU, Ef.bad, Option.getD_some, Option.getD_none, Option.map_some, Option.map_none, List.all_cons, List.all_nil, List.map_cons, List.map_nil, List.append_nil, List.nil_append, List.cons_append, List.length_cons, List.length_nil, List.mem_cons, List.not_mem_nil, Bool.and_true, Bool.true_and, Bool.and_self, Bool.not_true, Bool.not_false, Bool.or_self, Bool.or_false, Bool.false_or, Bool.false_eq_true, Bool.true_eq_false, Bool.cond_true_left, Bool.cond_false_right, cond_true, cond_false, reduceCtorEq, ↓reduceIte, if_true, if_false, true_and, and_true, and_self, false_and, and_false, or_false, false_or, not_false_eq_true, not_true_eq_false, forall_const, true_implies, false_implies, implies_true, imp_self, eq_self, ne_eq, Nat.reduceAdd, Nat.reduceSub, Nat.reduceMul, Nat.reduceLeDiff, Nat.reduceEqDiff, Nat.zero_add, Nat.add_zero, Nat.le_refl, Nat.succ_ne_self, Nat.one_ne_zero, Nat.zero_ne_one, Int.toNat_natCast, litRow, List.drop_succ_cons, List.drop_zero, List.take_succ_cons, List.take_zero, pubE, pubV, pubL, pubO, eqS, eqB, Nat.reduceLT, Nat.not_lt_zero, Nat.sub_zero, decide_true, decide_false, true_or, or_true, Int.le_refl, Int.cast_ofNat_Int, Int.reduceToNat, Int.reduceLT, Int.reduceLE, beq_self_eq_true, Nat.mul_one, Nat.one_mul, Nat.zero_mul])
        | refine And.intro (fun h => ?_) (fun h => ?_)
        | refine And.intro (by first | omega | (simp only [maxLen, decide_eq_true_eq, decide_eq_false_iff_not] at *; omega)) ?_
        | refine And.intro rfl ?_
        | fail
    exact lopK.on (k + 1, min n x) ⟨hlt, he⟩ (by simp only; omega) (Wk.of [] hfn rfl (by (simp only [EnvLe, VLe_refl, VLe_int, Go.Bx.get, reduceCtorEq, ↓reduceIte, true_and, and_true, eq_self, Nat.reduceEqDiff, Nat.succ_ne_self]) <;> (first | exact wS (by omega) | (rw [List.length_append]; exact wS (by omega)) | assumption)) (by simp only [OwnLe]))
  · have hkl : k = l.length := by have := of_decide_eq_false h1; omega
    rw [hkl, List.drop_length, List.foldl_nil] at he
    exact RetK.pure (by simp only [rs16, ressS, resS, and_self]) (by (simp only [rs16, retV, resV, Go.Bx.get, ↓reduceIte, eq_self, VLe_int, Go.Bx.get, ↓reduceIte, eq_self]) <;> (first | rw [leastR, he]))
theorem s16' {a : Int} {full : Bool} {n : Nat} {ds : List D} {l : List Int} (h : LitI .i64 ds l) (hn : n = l.length) (hl : l.length ≤ 9223372036854775807) : Ctr Try.prog 16 [.d (.int .i64 a), .d (.sl full 1 n (litRow 1 ds))] [] (.d (.int .i64 (leastR a l))) [] [] :=
  (s16 a l hl).arg ⟨VLe.refl _, h.vle hn, trivial⟩
def claimC (c : Cv) (loss : Int) : Int := leastR (IntKind.i64.wrap (loss - c.de)) [c.li]
theorem s14 (k : Cv) (loss : Int) : Ctr Try.prog 14 [vC k, .d (.int .i64 loss)] [] (.d (.int .i64 (claimC k loss))) [] [] := by
  refine pure14 (by simp) rfl rfl ?_
  intro c hP hfn
  simp only [c14, vC, cC, vcC_seq, vcC_reg, seqK_nrm, nrmK_app, initE, vcR_nil, vcR_n, isCall, makes, newOf, opR, binI, evS, evV, evX, evSs, evVs, catV, Go.Bx.get, Go.Bx.own?, cellsV, isCell, cut, nth, toDs, St.stp, Ef.stp, lgs, setE, applyU, setO, newN, Option.getD_some, Option.map_some, List.all_cons, List.all_nil, List.append_nil, List.length_cons, List.length_nil, List.mem_cons, List.not_mem_nil, Bool.and_self, Bool.false_eq_true, ↓reduceIte, true_and, and_self, or_false, not_false_eq_true, eq_self, Nat.reduceAdd, Nat.reduceLeDiff, Nat.reduceEqDiff, Nat.zero_add, Nat.succ_ne_self, Nat.zero_ne_one]
  repeat' first
      | (first
          | refine TR.p hP (by first | exact s16' (by repeat constructor) (by rfl) (by simp)) (by repeat' first | exact trivial | (intro _; assumption) | apply And.intro) ?_
          | refine TR.gp hP rfl (fun _ => by first | exact s16' (by repeat constructor) (by rfl) (by simp)) (fun _ => by repeat' first | exact trivial | (intro _; assumption) | apply And.intro) ?_
          | refine TR.pv hP rfl (by first | exact s16' (by repeat constructor) (by rfl) (by simp)) trivial (by repeat' first | exact trivial | (intro _; assumption) | apply And.intro) ?_
         try simp only [vcC_ret, seqK_nrm, nrmK_app, vcR_nil, vcR_n, isCall, makes, newOf, opR, evS, evV, evX, Go.Bx.get, St.stp, Ef.stp, lgs, setE, applyU, newN, Bool.false_eq_true, ↓reduceIte, true_and, eq_self])
      | refine And.intro (fun h => ?_) (fun h => ?_)
      | refine And.intro (by first | omega | (simp only [maxLen, decide_eq_true_eq, decide_eq_false_iff_not] at *; omega)) ?_
      | refine And.intro rfl ?_
      | fail
  exact RetK.pure (by simp only [rs14, ressS, resS, and_self]) (by (simp only [rs14, retV, resV, Go.Bx.get, ↓reduceIte, eq_self, VLe_int, Go.Bx.get, ↓reduceIte, eq_self]) <;> (first | rfl))
theorem s15 (k : Cv) (amt : Int) (ha : amt ≤ 9223372036854775807) (hs : k.sh ≤ 9223372036854775807) : Ctr Try.prog 15 [vC k, .d (.int .i64 amt)] [] (.d (.int .i64 (bpR amt k.sh).1)) [] [] := by
  refine pure15 (by simp) rfl rfl ?_
  intro c hP hfn
  simp only [c15, vC, cC, vcC_seq, vcC_reg, seqK_nrm, nrmK_app, initE, vcR_nil, vcR_n, isCall, makes, newOf, opR, evS, evV, evX, Go.Bx.get, Go.Bx.own?, cellsV, isCell, cut, nth, St.stp, Ef.stp, lgs, setE, applyU, setO, newN, Option.getD_some, List.all_cons, List.all_nil, List.length_cons, List.length_nil, List.not_mem_nil, Bool.and_self, Bool.false_eq_true, ↓reduceIte, true_and, and_self, not_false_eq_true, eq_self, Nat.reduceAdd, Nat.reduceEqDiff, Nat.zero_add, Nat.le_refl, Nat.succ_ne_self, Nat.zero_ne_one]
  repeat' first
      | (first
          | refine TR.p hP (by first | exact sBp amt k.sh ha hs) (by repeat' first | exact trivial | (intro _; assumption) | apply And.intro) ?_
          | refine TR.gp hP rfl (fun _ => by first | exact sBp amt k.sh ha hs) (fun _ => by repeat' first | exact trivial | (intro _; assumption) | apply And.intro) ?_
          | refine TR.pv hP rfl (by first | exact sBp amt k.sh ha hs) trivial (by repeat' first | exact trivial | (intro _; assumption) | apply And.intro) ?_
         try simp only [vcC_seq, vcC_reg, vcC_ret, seqK_nrm, nrmK_app, vcR_nil, vcR_n, isCall, makes, newOf, opR, evS, evV, evX, Go.Bx.get, nth, St.stp, Ef.stp, lgs, setE, applyU, newN, List.length_cons, List.length_nil, Bool.false_eq_true, ↓reduceIte, true_and, and_self, eq_self, Nat.reduceAdd, Nat.reduceEqDiff, Nat.zero_add, Nat.succ_ne_self, Nat.reduceLT])
      | refine And.intro (fun h => ?_) (fun h => ?_)
      | refine And.intro (by first | omega | (simp only [maxLen, decide_eq_true_eq, decide_eq_false_iff_not] at *; omega)) ?_
      | refine And.intro rfl ?_
      | fail
  exact RetK.pure (by simp only [rs15, ressS, resS, and_self]) (by (simp only [rs15, retV, resV, Go.Bx.get, ↓reduceIte, eq_self, VLe_refl, Go.Bx.get, ↓reduceIte, eq_self]) <;> (first | rfl))
def paysC (c : Cv) (loss used : Int) : Int :=
  if (!(rightC c) || decide (loss < 0) || decide (used < 0)) = true then 0 else leastR (bpR (claimC c loss) c.sh).1 [IntKind.i64.wrap (c.ag - used)]
theorem claim_le {k : Cv} {loss : Int} (h : k.li ≤ 9223372036854775807) : claimC k loss ≤ 9223372036854775807 := by
  simp only [claimC, leastR, List.foldl_cons, List.foldl_nil]; omega
def fn2 (k : Cv) : Nat → Int → Int
  | 0, x => x
  | 1, x => claimC k x
  | _, x => (bpR (claimC k x) k.sh).1
theorem s11 (k : Cv) (loss used : Int) (hli : k.li ≤ 9223372036854775807) (hsh : k.sh ≤ 9223372036854775807) : Ctr Try.prog 11 [vC k, .d (.int .i64 loss), .d (.int .i64 used)] [] (.d (.int .i64 (paysC k loss used))) [] [] := by
  refine pure11 (by simp) rfl rfl ?_
  intro c hP hfn
  simp only [c11, vC, cC, vcC_seq, vcC_reg, seqK_nrm, nrmK_app, initE, vcR_nil, vcR_n, isCall, makes, newOf, opR, evS, evV, evX, Go.Bx.get, Go.Bx.own?, cellsV, isCell, cut, dropV, takeV, St.stp, Ef.stp, lgs, setE, applyU, setO, newN, Option.getD_some, List.all_cons, List.all_nil, List.length_cons, List.length_nil, List.not_mem_nil, Bool.and_self, Bool.false_eq_true, ↓reduceIte, true_and, and_self, not_false_eq_true, eq_self, Nat.reduceAdd, Nat.reduceEqDiff, Nat.zero_add, Nat.le_refl]
  repeat' first
      | (first
          | refine TR.p hP (by first | exact s9 k) (by repeat' first | exact trivial | (intro _; assumption) | apply And.intro) ?_
          | refine TR.gp hP rfl (fun _ => by first | exact s9 k) (fun _ => by repeat' first | exact trivial | (intro _; assumption) | apply And.intro) ?_
          | refine TR.pv hP rfl (by first | exact s9 k) trivial (by repeat' first | exact trivial | (intro _; assumption) | apply And.intro) ?_
         try simp only [vcC_seq, vcC_reg, vcC_skip, vcC_cond, vcC_block, vcC_ret, seqK_nrm, seqK_ret, nrmK_app, vcR_nil, vcR_n, vcR_s, isCall, makes, hasU, newOf, opR, binI, pickV, evS, evV, evX, evSs, evVs, catV, gOf, Go.Bx.get, Go.Bx.own?, cellsV, cut, dropV, takeV, toDs, St.stp, Ef.stp, lgs, setE, applyU, setO, newN, Option.getD_some, List.append_nil, List.nil_append, List.cons_append, List.length_cons, List.length_nil, List.mem_cons, List.not_mem_nil, Bool.true_and, Bool.false_eq_true, Bool.cond_true_left, reduceCtorEq, ↓reduceIte, true_and, and_true, and_self, or_false, not_false_eq_true, forall_const, implies_true, imp_self, eq_self, Nat.reduceAdd, Nat.reduceEqDiff, Nat.zero_add, Nat.le_refl, Nat.succ_ne_self, Nat.zero_ne_one, Nat.reduceLT, Int.cast_ofNat_Int])
      | refine And.intro (fun h => ?_) (fun h => ?_)
      | refine And.intro (by first | omega | (simp only [maxLen, decide_eq_true_eq, decide_eq_false_iff_not] at *; omega)) ?_
      | refine And.intro rfl ?_
      | fail
  · exact RetK.pure (by simp only [rs11, ressS, resS, and_self]) (by (simp only [rs11, retV, resV, Go.Bx.get, ↓reduceIte, eq_self, VLe_int, Go.Bx.get, ↓reduceIte, eq_self]) <;> (first | rw [paysC, if_pos h]))
  refine vcC.loop (X := Nat) (fun x => ⟨[(2, .d (.int .i64 used)), (3, .own 3 0), (7, .d (.int .i64 (fn2 k x loss))), (26, .osl 26), (27, .d (.int .i64 2)), (28, .d (.int .i64 x))], [(3, .fix (cC k)), (26, .lit 1 2 [.fn (.func 14) [vC k] [], .fn (.func 15) [vC k] []])], [3, 26]⟩)
    (fun x => x ≤ 2) (fun x => 2 - x) 0 (by omega) (Wk.of [] hfn rfl (by simp only [fn2, EnvLe, VLe_refl, Go.Bx.get, reduceCtorEq, ↓reduceIte, and_self, eq_self, Nat.reduceEqDiff, Nat.succ_ne_self, Int.cast_ofNat_Int]) (by simp only [cC, vC, OwnLe, OLe_refl, exists_eq_left', Option.some.injEq, Go.Bx.own?, ↓reduceIte, and_self, eq_self, Nat.reduceEqDiff])) ?_
  intro x hx
  have : x = 0 ∨ x = 1 ∨ x = 2 := by omega
  rcases this with rfl | rfl | rfl
  · simp only [fn2, cC, vC, vcC_seq, vcC_reg, vcC_skip, vcC_cond, vcC_block, vcC_exit, seqK_nrm, seqK_exit, blkK_exit, lopK_exit, nrmK_app, vcR_nil, vcR_n, isCall, makes, newOf, opR, binI, evS, evV, evX, evSs, evVs, catV, Go.Bx.get, Go.Bx.own?, cellsV, cut, nth, toDs, St.stp, Ef.stp, lgs, setE, applyU, newN, Option.getD_some, Option.map_some, List.append_nil, List.length_cons, List.length_nil, List.mem_cons, List.not_mem_nil, Bool.false_eq_true, Bool.true_eq_false, ↓reduceIte, true_and, and_true, and_self, or_false, not_false_eq_true, forall_const, false_implies, eq_self, Nat.reduceAdd, Nat.reduceLeDiff, Nat.reduceEqDiff, Nat.zero_add, Nat.le_refl, Nat.succ_ne_self, Nat.reduceLT, decide_true, Int.le_refl, Int.cast_ofNat_Int, Int.reduceToNat, Int.reduceLT]
    repeat' first
        | (first
            | refine TR.p hP (by first | exact s14 k loss) (by repeat' first | exact trivial | (intro _; assumption) | apply And.intro) ?_
            | refine TR.gp hP rfl (fun _ => by first | exact s14 k loss) (fun _ => by repeat' first | exact trivial | (intro _; assumption) | apply And.intro) ?_
            | refine TR.pv hP rfl (by first | exact s14 k loss) trivial (by repeat' first | exact trivial | (intro _; assumption) | apply And.intro) ?_
           try simp only [vcC_reg, seqK_nrm, blkK_nrm, nrmK_app, vcR_nil, vcR_n, isCall, makes, newOf, opR, binI, evS, evV, evX, Go.Bx.get, St.stp, Ef.stp, lgs, setE, applyU, newN, Bool.false_eq_true, ↓reduceIte, true_and, and_self, eq_self, Nat.reduceEqDiff, Nat.succ_ne_self])
        | refine And.intro (fun h => ?_) (fun h => ?_)
        | refine And.intro (by first | omega | (simp only [maxLen, decide_eq_true_eq, decide_eq_false_iff_not] at *; omega)) ?_
        | refine And.intro rfl ?_
        | fail
    exact lopK.on 1 (by omega) (by omega) (Wk.of [] hfn rfl (by simp only [EnvLe, VLe_refl, VLe_int, Go.Bx.get, ↓reduceIte, true_and, and_true, eq_self, Nat.reduceEqDiff, Nat.succ_ne_self, Int.cast_ofNat_Int]; decide +kernel) (by simp only [OwnLe, OLe_refl, exists_eq_left', Option.some.injEq, Go.Bx.own?, ↓reduceIte, and_self, eq_self, Nat.reduceEqDiff]))
  · simp only [fn2, cC, vC, vcC_seq, vcC_reg, vcC_skip, vcC_cond, vcC_block, vcC_exit, seqK_nrm, seqK_exit, blkK_exit, lopK_exit, nrmK_app, vcR_nil, vcR_n, isCall, makes, newOf, opR, binI, evS, evV, evX, evSs, evVs, catV, Go.Bx.get, Go.Bx.own?, cellsV, cut, nth, toDs, St.stp, Ef.stp, lgs, setE, applyU, newN, Option.getD_some, Option.map_some, List.append_nil, List.length_cons, List.length_nil, List.mem_cons, List.not_mem_nil, Bool.false_eq_true, Bool.true_eq_false, ↓reduceIte, true_and, and_true, and_self, or_false, not_false_eq_true, forall_const, false_implies, eq_self, Nat.reduceAdd, Nat.reduceLeDiff, Nat.reduceEqDiff, Nat.zero_add, Nat.le_refl, Nat.succ_ne_self, Nat.reduceLT, decide_true, Int.cast_ofNat_Int, Int.reduceToNat, Int.reduceLT, Int.reduceLE]
    repeat' first
        | (first
            | refine TR.p hP (by first | exact s15 k (claimC k loss) (claim_le hli) hsh) (by repeat' first | exact trivial | (intro _; assumption) | apply And.intro) ?_
            | refine TR.gp hP rfl (fun _ => by first | exact s15 k (claimC k loss) (claim_le hli) hsh) (fun _ => by repeat' first | exact trivial | (intro _; assumption) | apply And.intro) ?_
            | refine TR.pv hP rfl (by first | exact s15 k (claimC k loss) (claim_le hli) hsh) trivial (by repeat' first | exact trivial | (intro _; assumption) | apply And.intro) ?_
           try simp only [vcC_reg, seqK_nrm, blkK_nrm, nrmK_app, vcR_nil, vcR_n, isCall, makes, newOf, opR, binI, evS, evV, evX, Go.Bx.get, St.stp, Ef.stp, lgs, setE, applyU, newN, Bool.false_eq_true, ↓reduceIte, true_and, and_self, eq_self, Nat.reduceEqDiff, Nat.succ_ne_self])
        | refine And.intro (fun h => ?_) (fun h => ?_)
        | refine And.intro (by first | omega | (simp only [maxLen, decide_eq_true_eq, decide_eq_false_iff_not] at *; omega)) ?_
        | refine And.intro rfl ?_
        | fail
    exact lopK.on 2 (by omega) (by omega) (Wk.of [] hfn rfl (by simp only [EnvLe, VLe_refl, VLe_int, Go.Bx.get, ↓reduceIte, true_and, and_true, eq_self, Nat.reduceEqDiff, Nat.succ_ne_self, Int.cast_ofNat_Int]; decide +kernel) (by simp only [OwnLe, OLe_refl, exists_eq_left', Option.some.injEq, Go.Bx.own?, ↓reduceIte, and_self, eq_self, Nat.reduceEqDiff]))
  · simp only [fn2, cC, vC, vcC_seq, vcC_reg, vcC_skip, vcC_cond, vcC_block, vcC_exit, seqK_nrm, seqK_exit, blkK_exit, lopK_exit, nrmK_app, vcR_nil, vcR_n, isCall, makes, newOf, opR, binI, evS, evV, evX, evSs, evVs, catV, Go.Bx.get, Go.Bx.own?, cellsV, cut, nth, toDs, St.stp, Ef.stp, lgs, setE, applyU, newN, Option.getD_some, Option.map_some, List.append_nil, List.length_cons, List.length_nil, List.mem_cons, List.not_mem_nil, Bool.false_eq_true, ↓reduceIte, true_and, and_true, and_self, false_and, and_false, or_false, not_false_eq_true, forall_const, imp_self, eq_self, Nat.reduceAdd, Nat.reduceLeDiff, Nat.reduceEqDiff, Nat.zero_add, Nat.le_refl, Nat.succ_ne_self, Nat.reduceLT, decide_false, Int.cast_ofNat_Int, Int.reduceToNat, Int.reduceLT, Int.reduceLE]
    repeat' first
        | (first
            | refine TR.p hP (by first | exact s16' (by repeat constructor) (by rfl) (by simp)) (by repeat' first | exact trivial | (intro _; assumption) | apply And.intro) ?_
            | refine TR.gp hP rfl (fun _ => by first | exact s16' (by repeat constructor) (by rfl) (by simp)) (fun _ => by repeat' first | exact trivial | (intro _; assumption) | apply And.intro) ?_
            | refine TR.pv hP rfl (by first | exact s16' (by repeat constructor) (by rfl) (by simp)) trivial (by repeat' first | exact trivial | (intro _; assumption) | apply And.intro) ?_
           try simp only [vcC_ret, seqK_nrm, nrmK_app, vcR_nil, vcR_n, isCall, makes, newOf, opR, evS, evV, evX, Go.Bx.get, St.stp, Ef.stp, lgs, setE, applyU, newN, Bool.false_eq_true, ↓reduceIte, true_and, eq_self])
        | refine And.intro (fun h => ?_) (fun h => ?_)
        | refine And.intro (by first | omega | (simp only [maxLen, decide_eq_true_eq, decide_eq_false_iff_not] at *; omega)) ?_
        | refine And.intro rfl ?_
        | fail
    exact RetK.pure (by simp only [rs11, ressS, resS, and_self]) (by (simp only [rs11, retV, resV, Go.Bx.get, ↓reduceIte, eq_self, VLe_int, Go.Bx.get, ↓reduceIte, eq_self]) <;> (first | (rw [paysC, if_neg (by rw [h]; simp)])))
end Go.Proofs.Ytldfjldgbeeofaa
