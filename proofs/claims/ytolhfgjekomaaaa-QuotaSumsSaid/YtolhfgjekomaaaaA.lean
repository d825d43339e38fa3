import Derived.Test.YtolhfgjekomaaaaCode
namespace Go.Proofs.Ytolhfgjekomaaaa
open Go.Bx

/-! Spans. -/
def okS (f t : Int) : Bool := decide (f ≥ 1) && decide (f ≤ t) && decide (t ≤ 292195)
def keptR (f t : Int) : Int × Int := if (!(okS f t) || f == t) = true then (0, 0) else (f, t)
def manyR (f t : Int) : Int := IntKind.i64.wrap ((keptR f t).2 - (keptR f t).1)
def inS (f t d : Int) : Bool := decide (d ≥ (keptR f t).1) && decide (d < (keptR f t).2)
def vS (f t : Int) : V := .ag [.d (.int .i64 f), .d (.int .i64 t)]

theorem s55 (f t : Int) : Ctr Try.prog 55 [vS f t] [] (.d (.bool (okS f t))) [] [] := by
  refine pure55 (by simp) rfl rfl ?_; intro c hP hfn; simp only [c55, vS, vcC_seq, vcC_reg, vcC_ret, seqK_nrm, nrmK_app, initE, vcR_nil, vcR_n, vcR_s, isCall, makes, hasU, newOf, opR, binI, pickV, evS, evV, evX, gOf, Go.Bx.get, Go.Bx.own?, cellsV, isCell, cut, nth, St.stp, Ef.stp, lgs, setE, applyU, setO, newN, Option.getD_some, List.all_cons, List.all_nil, List.length_cons, List.length_nil, List.mem_cons, List.not_mem_nil, Bool.true_and, Bool.and_self, Bool.false_eq_true, Bool.cond_false_right, ↓reduceIte, true_and, and_true, and_self, or_false, not_false_eq_true, forall_const, implies_true, imp_self, eq_self, Nat.reduceAdd, Nat.reduceLeDiff, Nat.reduceEqDiff, Nat.zero_add, Nat.add_zero, Nat.le_refl, Nat.succ_ne_self]
  exact RetK.pure (by simp only [rs55, ressS, resS, and_self]) (by simp only [rs55, retV, resV, Go.Bx.get, ↓reduceIte, eq_self, VLe_refl, Go.Bx.get, ↓reduceIte, eq_self, okS])
theorem s51 (f t : Int) : Ctr Try.prog 51 [vS f t] [] (vS (keptR f t).1 (keptR f t).2) [] [] := by
  refine pure51 (by simp) rfl rfl ?_; intro c hP hfn; simp only [c51, vS, vcC_seq, vcC_reg, seqK_nrm, nrmK_app, initE, vcR_nil, vcR_n, isCall, makes, newOf, opR, evS, evV, evX, Go.Bx.get, Go.Bx.own?, cellsV, isCell, cut, dropV, takeV, St.stp, Ef.stp, lgs, setE, applyU, setO, newN, Option.getD_some, List.all_cons, List.all_nil, List.length_cons, List.length_nil, List.mem_cons, List.not_mem_nil, Bool.and_self, Bool.false_eq_true, ↓reduceIte, true_and, and_self, or_false, not_false_eq_true, eq_self, Nat.reduceAdd, Nat.reduceEqDiff, Nat.zero_add, Nat.le_refl, Nat.succ_ne_self]
  repeat' first
      | (first
          | refine TR.p hP (by first | exact s55 ..) (by repeat' first | exact trivial | (intro _; assumption) | apply And.intro) ?_
          | refine TR.gp hP rfl (fun _ => by first | exact s55 ..) (fun _ => by repeat' first | exact trivial | (intro _; assumption) | apply And.intro) ?_
          | refine TR.pv hP rfl (by first | exact s55 ..) trivial (by repeat' first | exact trivial | (intro _; assumption) | apply And.intro) ?_
         try simp only [vcC_seq, vcC_reg, vcC_skip, vcC_cond, vcC_ret, seqK_nrm, seqK_ret, nrmK_app, vcR_nil, vcR_n, vcR_s, isCall, makes, hasU, newOf, opR, binI, pickV, evS, evV, evX, evParts, evPartsS, fillV, gOf, Go.Bx.get, Go.Bx.own?, cellsV, isCell, cut, nth, dropV, takeV, putV, St.stp, Ef.stp, lgs, setE, applyU, setO, newN, Option.getD_some, List.all_cons, List.all_nil, List.length_cons, List.length_nil, List.mem_cons, List.not_mem_nil, Bool.true_and, Bool.and_self, Bool.false_eq_true, Bool.cond_true_left, ↓reduceIte, true_and, and_true, and_self, or_false, not_false_eq_true, forall_const, implies_true, imp_self, eq_self, Nat.reduceAdd, Nat.reduceLeDiff, Nat.reduceEqDiff, Nat.zero_add, Nat.add_zero, Nat.le_refl, Nat.succ_ne_self])
      | refine And.intro (fun h => ?_) (fun h => ?_)
      | refine And.intro (by first | omega | (simp only [maxLen, decide_eq_true_eq, decide_eq_false_iff_not] at *; omega)) ?_
      | refine And.intro rfl ?_
      | fail
  all_goals exact RetK.pure (by simp only [rs51, ressS, resS, Go.Bx.get, Go.Bx.own?, List.length_cons, List.length_nil, ↓reduceIte, and_self, eq_self, Nat.reduceAdd, Nat.reduceEqDiff, Nat.zero_add, Nat.le_refl, Nat.succ_ne_self]) (by simp only [rs51, retV, resV, Go.Bx.get, Go.Bx.own?, cut, dropV, takeV, Bool.false_eq_true, ↓reduceIte, eq_self, Nat.reduceEqDiff, Nat.succ_ne_self, VLe_refl, Go.Bx.get, Go.Bx.own?, cut, dropV, takeV, Bool.false_eq_true, ↓reduceIte, eq_self, Nat.reduceEqDiff, Nat.succ_ne_self, keptR, *])
theorem s39 (f t d : Int) : Ctr Try.prog 39 [vS f t, .d (.int .i64 d)] [] (.d (.bool (inS f t d))) [] [] := by
  refine pure39 (by simp) rfl rfl ?_; intro c hP hfn; simp only [c39, vS, vcC_seq, vcC_reg, seqK_nrm, nrmK_app, initE, vcR_nil, vcR_n, isCall, makes, newOf, opR, evS, evV, evX, Go.Bx.get, Go.Bx.own?, cellsV, isCell, cut, dropV, takeV, St.stp, Ef.stp, lgs, setE, applyU, setO, newN, Option.getD_some, List.all_cons, List.all_nil, List.length_cons, List.length_nil, List.not_mem_nil, Bool.and_self, Bool.false_eq_true, ↓reduceIte, true_and, and_self, not_false_eq_true, eq_self, Nat.reduceAdd, Nat.reduceEqDiff, Nat.zero_add, Nat.le_refl]
  repeat' first
      | (first
          | refine TR.p hP (by first | exact s51 ..) (by repeat' first | exact trivial | (intro _; assumption) | apply And.intro) ?_
          | refine TR.gp hP rfl (fun _ => by first | exact s51 ..) (fun _ => by repeat' first | exact trivial | (intro _; assumption) | apply And.intro) ?_
          | refine TR.pv hP rfl (by first | exact s51 ..) trivial (by repeat' first | exact trivial | (intro _; assumption) | apply And.intro) ?_
         try simp only [vS, vcC_seq, vcC_reg, vcC_ret, seqK_nrm, nrmK_app, vcR_nil, vcR_n, vcR_s, isCall, makes, hasU, newOf, opR, binI, pickV, evS, evV, evX, gOf, Go.Bx.get, Go.Bx.own?, cellsV, isCell, cut, nth, putV, St.stp, Ef.stp, lgs, setE, applyU, setO, newN, Option.getD_some, List.all_cons, List.all_nil, List.length_cons, List.length_nil, List.mem_cons, List.not_mem_nil, Bool.true_and, Bool.and_self, Bool.false_eq_true, Bool.cond_false_right, ↓reduceIte, true_and, and_true, and_self, or_false, not_false_eq_true, forall_const, implies_true, imp_self, eq_self, Nat.reduceAdd, Nat.reduceLeDiff, Nat.reduceEqDiff, Nat.zero_add, Nat.add_zero, Nat.le_refl, Nat.succ_ne_self, Nat.zero_ne_one])
      | refine And.intro (fun h => ?_) (fun h => ?_)
      | refine And.intro (by first | omega | (simp only [maxLen, decide_eq_true_eq, decide_eq_false_iff_not] at *; omega)) ?_
      | refine And.intro rfl ?_
      | fail
  exact RetK.pure (by simp only [rs39, ressS, resS, and_self]) (by simp only [rs39, retV, resV, Go.Bx.get, ↓reduceIte, eq_self, VLe_refl, Go.Bx.get, ↓reduceIte, eq_self, inS])
theorem s42 (f t : Int) : Ctr Try.prog 42 [vS f t] [] (.d (.int .i64 (manyR f t))) [] [] := by
  refine pure42 (by simp) rfl rfl ?_; intro c hP hfn; simp only [c42, vS, vcC_seq, vcC_reg, seqK_nrm, nrmK_app, initE, vcR_nil, vcR_n, isCall, makes, newOf, opR, evS, evV, evX, Go.Bx.get, Go.Bx.own?, cellsV, isCell, cut, dropV, takeV, St.stp, Ef.stp, lgs, setE, applyU, setO, newN, Option.getD_some, List.all_cons, List.all_nil, List.length_cons, List.length_nil, List.not_mem_nil, Bool.and_self, Bool.false_eq_true, ↓reduceIte, true_and, and_self, not_false_eq_true, eq_self, Nat.reduceAdd, Nat.zero_add, Nat.le_refl, Nat.succ_ne_self]
  repeat' first
      | (first
          | refine TR.p hP (by first | exact s51 ..) (by repeat' first | exact trivial | (intro _; assumption) | apply And.intro) ?_
          | refine TR.gp hP rfl (fun _ => by first | exact s51 ..) (fun _ => by repeat' first | exact trivial | (intro _; assumption) | apply And.intro) ?_
          | refine TR.pv hP rfl (by first | exact s51 ..) trivial (by repeat' first | exact trivial | (intro _; assumption) | apply And.intro) ?_
         try simp only [vS, vcC_seq, vcC_reg, vcC_ret, seqK_nrm, nrmK_app, vcR_nil, vcR_n, isCall, makes, newOf, opR, binI, evS, evV, evX, Go.Bx.get, Go.Bx.own?, cellsV, isCell, cut, nth, putV, St.stp, Ef.stp, lgs, setE, applyU, setO, newN, List.all_cons, List.all_nil, List.length_cons, List.length_nil, List.mem_cons, List.not_mem_nil, Bool.and_self, Bool.false_eq_true, ↓reduceIte, true_and, and_self, or_false, eq_self, Nat.reduceAdd, Nat.reduceLeDiff, Nat.reduceEqDiff, Nat.zero_add, Nat.add_zero, Nat.le_refl, Nat.succ_ne_self])
      | refine And.intro (fun h => ?_) (fun h => ?_)
      | refine And.intro (by first | omega | (simp only [maxLen, decide_eq_true_eq, decide_eq_false_iff_not] at *; omega)) ?_
      | refine And.intro rfl ?_
      | fail
  exact RetK.pure (by simp only [rs42, ressS, resS, and_self]) (by simp only [rs42, retV, resV, Go.Bx.get, ↓reduceIte, eq_self, VLe_refl, Go.Bx.get, ↓reduceIte, eq_self, manyR])

/-! Bounds. -/
def inB (lo hi x : Int) : Bool := !(decide (x < lo) || decide (x > hi))
def vW (lo hi : Int) : V := .ag [.d (.int .i64 lo), .d (.int .i64 hi)]
theorem s41 (lo hi : Int) (l : List Int) (hl : l.length ≤ 9223372036854775807) : Ctr Try.prog 41 [vW lo hi, .d (slK .i64 l)] [] (.d (.bool (l.all (inB lo hi)))) [] [] := by
  refine pure41 (by simp) rfl rfl ?_; intro c hP hfn; simp only [c41, vW, vcC_seq, vcC_reg, vcC_block, seqK_nrm, nrmK_app, initE, vcR_nil, vcR_n, isCall, makes, slK, newOf, opR, evS, evV, evX, Go.Bx.get, cellsV, isCell, St.stp, Ef.stp, lgs, setE, applyU, setO, newN, Option.getD_some, List.all_cons, List.all_nil, List.not_mem_nil, Bool.and_self, Bool.false_eq_true, ↓reduceIte, true_and, and_self, not_false_eq_true, eq_self, Nat.reduceEqDiff, Nat.zero_add, Nat.succ_ne_self, Nat.zero_ne_one]
  refine vcC.loop (X := Nat) (fun k => ⟨[(2, .own 2 0), (7, .d (slK .i64 l)), (8, .d (.int .i64 l.length)), (9, .d (.int .i64 k))], [(2, .fix [.d (.int .i64 lo), .d (.int .i64 hi)])], [2]⟩)
    (fun k => k ≤ l.length ∧ l.all (inB lo hi) = (l.drop k).all (inB lo hi)) (fun k => l.length - k) 0 ⟨Nat.zero_le _, rfl⟩ (Wk.of [] hfn rfl (by simp only [EnvLe, VLe_refl, slK, Go.Bx.get, ↓reduceIte, and_self, eq_self, Nat.reduceEqDiff, Nat.succ_ne_self, Int.cast_ofNat_Int]) (by simp only [OwnLe, OLe_refl, exists_eq_left', Option.some.injEq, Go.Bx.own?, ↓reduceIte, and_self, eq_self])) ?_
  rintro k ⟨hk, he⟩
  simp only [vcC_seq, vcC_reg, vcC_skip, vcC_cond, vcC_block, vcC_exit, vcC_ret, seqK_nrm, seqK_exit, seqK_ret, blkK_nrm, blkK_exit, blkK_ret, lopK_exit, lopK_ret, nrmK_app, vcR_nil, vcR_n, vcR_s, isCall, makes, hasU, slK, newOf, opR, binI, pickV, evS, evV, evX, gOf, Go.Bx.get, Go.Bx.own?, cut, cutD, nth, nthD, St.stp, Ef.stp, lgs, setE, applyU, newN, Option.getD_some, List.length_cons, List.length_nil, List.mem_cons, List.not_mem_nil, Bool.true_and, Bool.false_eq_true, Bool.cond_true_left, ↓reduceIte, true_and, and_true, and_self, or_false, not_false_eq_true, forall_const, implies_true, imp_self, eq_self, Nat.reduceAdd, Nat.reduceLeDiff, Nat.reduceEqDiff, Nat.zero_add, Nat.add_zero, Nat.le_refl, Nat.succ_ne_self, Int.toNat_natCast]
  refine ⟨fun h1 => ?_, fun h1 => ?_⟩
  · have hlt : k < l.length := by simpa using h1
    obtain ⟨x, hd, hg, -, -⟩ := drop_at hlt
    simp only [hg]
    rw [hd, List.all_cons] at he
    repeat' first
        | (first
            | refine TR.p hP (by first | fail) (by repeat' first | exact trivial | (intro _; assumption) | apply And.intro) ?_
            | refine TR.gp hP rfl (fun _ => by first | fail) (fun _ => by repeat' first | exact trivial | (intro _; assumption) | apply And.intro) ?_
            | refine TR.pv hP rfl (by first | fail) trivial (by repeat' first | exact trivial | (intro _; assumption) | apply And.intro) ?_
           try simp only [↓evSo_some, vcC_seq, vcC_reg, vcC_drw, vcC_skip, vcC_cond, vcC_block, vcC_exit, vcC_ret, vcC_bad, seqK_nrm, seqK_exit, seqK_ret, blkK_nrm, blkK_exit, blkK_ret, lopK_exit, lopK_ret, lopX_exit, lopX_ret, nrmK_app, drwK_app, initE, vcR_nil, vcR_n, vcR_s, isCall, makes, hasU, slK, newOf, opR, binI, pickV, evS, evV, evX, evSs, evVs, evParts, evPartsS, fillV, catV, gOf, Go.Bx.get, Go.Bx.own?, cellsV, isCell, cut, cutD, nth, nthD, dropV, takeV, dropD, takeDV, putV, toDs, St.stp, Ef.stp, Stp.lg, lgs, setE, applyU, setO, delO, newN, keysO, callU, Ef.bad, Option.getD_some, Option.getD_none, Option.map_some, Option.map_none, List.all_cons, List.all_nil, List.map_cons, List.map_nil, List.append_nil, List.nil_append, List.cons_append, List.length_cons, List.length_nil, List.mem_cons, List.not_mem_nil, Bool.and_true, Bool.true_and, Bool.and_self, Bool.not_true, Bool.not_false, Bool.or_self, Bool.or_false, Bool.false_or, Bool.false_eq_true, Bool.true_eq_false, Bool.cond_true_left, Bool.cond_false_right, cond_true, cond_false, reduceCtorEq, ↓reduceIte, if_true, if_false, true_and, and_true, and_self, false_and, and_false, or_false, false_or, not_false_eq_true, not_true_eq_false, forall_const, true_implies, false_implies, implies_true, imp_self, eq_self, ne_eq, Nat.reduceAdd, Nat.reduceSub, Nat.reduceMul, Nat.reduceLeDiff, Nat.reduceEqDiff, Nat.zero_add, Nat.add_zero, Nat.le_refl, Nat.succ_ne_self, Nat.one_ne_zero, Nat.zero_ne_one, Int.toNat_natCast, litRow, List.drop_succ_cons, List.drop_zero, List.take_succ_cons, List.take_zero, pubE, pubV, pubL, pubO, eqS, eqB, Nat.reduceLT, Nat.not_lt_zero, Nat.sub_zero, decide_true, decide_false, true_or, or_true, Int.le_refl, Int.cast_ofNat_Int, Int.reduceToNat, Int.reduceLT, Int.reduceLE, beq_self_eq_true, Nat.mul_one, Nat.one_mul, Nat.zero_mul])
        | refine And.intro (fun h => ?_) (fun h => ?_)
        | refine And.intro (by first | omega | (simp only [maxLen, decide_eq_true_eq, decide_eq_false_iff_not] at *; omega)) ?_
        | refine And.intro rfl ?_
        | fail
    · exact RetK.pure (by simp only [rs41, ressS, resS, and_self]) (by (simp only [rs41, retV, resV, Go.Bx.get, ↓reduceIte, eq_self, VLe_bool, Go.Bx.get, ↓reduceIte, eq_self]) <;> (first | rw [he]; simp [inB, h]))
    · refine lopK.on (k + 1) ⟨hlt, ?_⟩ (by omega) (Wk.of [] hfn rfl (by simp only [EnvLe, VLe_refl, VLe_int, Go.Bx.get, ↓reduceIte, true_and, and_true, eq_self, Nat.reduceEqDiff, Nat.succ_ne_self]; exact wS (by omega)) (by simp only [OwnLe, OLe_refl, exists_eq_left', Option.some.injEq, Go.Bx.own?, ↓reduceIte, and_self, eq_self]))
      rw [he]; simp [inB, h]
  · have hkl : k = l.length := by simp at h1; omega
    rw [hkl] at he
    exact RetK.pure (by simp only [rs41, ressS, resS, and_self]) (by (simp only [rs41, retV, resV, Go.Bx.get, ↓reduceIte, eq_self, VLe_bool, Go.Bx.get, ↓reduceIte, eq_self]) <;> (first | simp [he]))

theorem s41' {lo hi : Int} {full : Bool} {n : Nat} {ds : List D} {l : List Int} (h : LitI .i64 ds l) (hn : n = l.length) (hl : l.length ≤ 9223372036854775807) : Ctr Try.prog 41 [vW lo hi, .d (.sl full 1 n (litRow 1 ds))] [] (.d (.bool (l.all (inB lo hi)))) [] [] :=
  (s41 lo hi l hl).arg ⟨VLe.refl _, h.vle hn, trivial⟩

/-! Treaties and losses. -/
structure Tr where
  id : Int
  kind : Int
  sf : Int
  st : Int
  bp : Int
  att : Int
  wid : Int
  aga : Int
  per : Int
instance : Inhabited Tr := ⟨⟨0, 0, 0, 0, 0, 0, 0, 0, 0⟩⟩
structure Ls where
  cl : Int
  ev : Int
  day : Int
  per : Int
  amt : Int
instance : Inhabited Ls := ⟨⟨0, 0, 0, 0, 0⟩⟩
def cT (t : Tr) : List V := [.d (.int .i64 t.id), .d (.int .i64 t.kind), .d (.int .i64 t.sf), .d (.int .i64 t.st), .d (.int .i64 t.bp), .d (.int .i64 t.att), .d (.int .i64 t.wid), .d (.int .i64 t.aga), .d (.int .i64 t.per)]
def vT (t : Tr) : V := .ag (cT t)
def cX' (x : Ls) : List V := [.d (.int .i64 x.cl), .d (.int .i64 x.ev), .d (.int .i64 x.day), .d (.int .i64 x.per), .d (.int .i64 x.amt)]
def vX (x : Ls) : V := .ag (cX' x)
def slT (l : List Tr) : D := .sl false 9 l.length (fun i => [.int .i64 (l.getD i default).id, .int .i64 (l.getD i default).kind, .int .i64 (l.getD i default).sf, .int .i64 (l.getD i default).st, .int .i64 (l.getD i default).bp, .int .i64 (l.getD i default).att, .int .i64 (l.getD i default).wid, .int .i64 (l.getD i default).aga, .int .i64 (l.getD i default).per])
def slX (l : List Ls) : D := .sl false 5 l.length (fun i => [.int .i64 (l.getD i default).cl, .int .i64 (l.getD i default).ev, .int .i64 (l.getD i default).day, .int .i64 (l.getD i default).per, .int .i64 (l.getD i default).amt])

def rightT (t : Tr) : Bool :=
  !(!(inB 1 1000000000 t.id) || (manyR t.sf t.st == 0) || !(inB 1 255 t.per)) &&
    (if t.kind = 1 then inB 1 10000 t.bp && (inB 0 0 t.att && (inB 0 0 t.wid && inB 0 0 t.aga))
     else if t.kind = 2 ∨ t.kind = 3 then (t.bp == 0) && (inB 0 1000000000000000 t.att && inB 0 1000000000000000 t.wid) && decide (t.wid > 0) && inB 0 100 t.aga
     else false)
theorem s26 (t : Tr) : Ctr Try.prog 26 [vT t] [] (.d (.bool (rightT t))) [] [] := by
  refine pure26 (by simp) rfl rfl ?_; intro c hP hfn; simp only [c26, vT, cT, vcC_seq, vcC_reg, seqK_nrm, nrmK_app, initE, vcR_nil, vcR_n, isCall, makes, newOf, opR, evS, evV, evX, evSs, evVs, evParts, evPartsS, fillV, catV, Go.Bx.get, Go.Bx.own?, cellsV, isCell, cut, nth, putV, toDs, St.stp, Ef.stp, lgs, setE, applyU, setO, newN, Option.getD_some, Option.map_some, List.all_cons, List.all_nil, List.append_nil, List.length_cons, List.length_nil, List.mem_cons, List.not_mem_nil, Bool.and_self, Bool.false_eq_true, ↓reduceIte, true_and, and_self, or_false, not_false_eq_true, eq_self, Nat.reduceAdd, Nat.reduceLeDiff, Nat.reduceEqDiff, Nat.zero_add, Nat.add_zero, Nat.le_refl, Nat.succ_ne_self, decide_true]
  repeat' first
      | (first
          | refine TR.p hP (by first | exact s41' (by repeat constructor) (by rfl) (by simp) | exact s42 ..) (by repeat' first | exact trivial | (intro _; assumption) | apply And.intro) ?_
          | refine TR.gp hP rfl (fun _ => by first | exact s41' (by repeat constructor) (by rfl) (by simp) | exact s42 ..) (fun _ => by repeat' first | exact trivial | (intro _; assumption) | apply And.intro) ?_
          | refine TR.pv hP rfl (by first | exact s41' (by repeat constructor) (by rfl) (by simp) | exact s42 ..) trivial (by repeat' first | exact trivial | (intro _; assumption) | apply And.intro) ?_
         try simp only [List.all_cons, List.all_nil, vcC_seq, vcC_reg, vcC_skip, vcC_cond, vcC_block, vcC_ret, seqK_nrm, seqK_ret, blkK_nrm, blkK_ret, nrmK_app, vcR_nil, vcR_n, vcR_s, isCall, makes, hasU, newOf, opR, binI, pickV, evS, evV, evX, evSs, evVs, evParts, evPartsS, fillV, catV, gOf, Go.Bx.get, Go.Bx.own?, cellsV, cut, nth, dropV, takeV, putV, toDs, St.stp, Ef.stp, lgs, setE, applyU, newN, Option.getD_some, Option.map_some, List.all_cons, List.all_nil, List.append_nil, List.nil_append, List.cons_append, List.length_cons, List.length_nil, List.mem_cons, List.not_mem_nil, Bool.and_true, Bool.true_and, Bool.and_self, Bool.false_eq_true, Bool.cond_true_left, Bool.cond_false_right, ↓reduceIte, true_and, and_true, and_self, or_false, not_false_eq_true, forall_const, implies_true, imp_self, eq_self, Nat.reduceAdd, Nat.reduceLeDiff, Nat.reduceEqDiff, Nat.zero_add, Nat.le_refl, Nat.succ_ne_self, decide_true])
      | refine And.intro (fun h => ?_) (fun h => ?_)
      | refine And.intro (by first | omega | (simp only [maxLen, decide_eq_true_eq, decide_eq_false_iff_not] at *; omega)) ?_
      | refine And.intro rfl ?_
      | fail
  all_goals exact RetK.pure (by simp only [rs26, ressS, resS, and_self]) (by (simp only [rs26, retV, resV, Go.Bx.get, ↓reduceIte, eq_self, VLe_bool, Go.Bx.get, ↓reduceIte, eq_self]) <;> (first | (simp [*, rightT]; done) | (simp_all [rightT]; done) | (simp only [rightT]; grind)))
def lossX (x : Ls) : Bool := inB 1 1000000000 x.cl && inB 0 1000000000 x.ev && inB 1 292194 x.day && inB 0 7 x.per && inB 0 1000000000000000 x.amt
theorem s28 (x : Ls) : Ctr Try.prog 28 [vX x] [] (.d (.bool (lossX x))) [] [] := by
  refine pure28 (by simp) rfl rfl ?_; intro c hP hfn; simp only [c28, vX, cX', vcC_seq, vcC_reg, seqK_nrm, nrmK_app, initE, vcR_nil, vcR_n, isCall, makes, newOf, opR, evS, evV, evX, evSs, evVs, evParts, evPartsS, fillV, catV, Go.Bx.get, Go.Bx.own?, cellsV, isCell, cut, nth, putV, toDs, St.stp, Ef.stp, lgs, setE, applyU, setO, newN, Option.getD_some, Option.map_some, List.all_cons, List.all_nil, List.append_nil, List.length_cons, List.length_nil, List.mem_cons, List.not_mem_nil, Bool.and_self, Bool.false_eq_true, ↓reduceIte, true_and, and_self, or_false, not_false_eq_true, eq_self, Nat.reduceAdd, Nat.reduceLeDiff, Nat.reduceEqDiff, Nat.zero_add, Nat.add_zero, Nat.le_refl, Nat.succ_ne_self, decide_true]
  repeat' first
      | (first
          | refine TR.p hP (by first | exact s41' (by repeat constructor) (by rfl) (by simp)) (by repeat' first | exact trivial | (intro _; assumption) | apply And.intro) ?_
          | refine TR.gp hP rfl (fun _ => by first | exact s41' (by repeat constructor) (by rfl) (by simp)) (fun _ => by repeat' first | exact trivial | (intro _; assumption) | apply And.intro) ?_
          | refine TR.pv hP rfl (by first | exact s41' (by repeat constructor) (by rfl) (by simp)) trivial (by repeat' first | exact trivial | (intro _; assumption) | apply And.intro) ?_
         try simp only [List.all_cons, List.all_nil, vcC_ret, seqK_nrm, nrmK_app, vcR_nil, vcR_n, vcR_s, isCall, makes, hasU, newOf, opR, pickV, evS, evV, evX, evSs, evVs, evParts, evPartsS, fillV, catV, gOf, Go.Bx.get, Go.Bx.own?, cellsV, cut, nth, putV, toDs, St.stp, Ef.stp, lgs, setE, applyU, newN, Option.getD_some, Option.map_some, List.all_cons, List.all_nil, List.append_nil, List.length_cons, List.length_nil, List.mem_cons, List.not_mem_nil, Bool.and_true, Bool.true_and, Bool.and_self, Bool.false_eq_true, Bool.cond_false_right, ↓reduceIte, true_and, and_true, and_self, or_false, not_false_eq_true, forall_const, implies_true, imp_self, eq_self, Nat.reduceAdd, Nat.reduceLeDiff, Nat.reduceEqDiff, Nat.zero_add, Nat.le_refl, Nat.succ_ne_self, decide_true])
      | refine And.intro (fun h => ?_) (fun h => ?_)
      | refine And.intro (by first | omega | (simp only [maxLen, decide_eq_true_eq, decide_eq_false_iff_not] at *; omega)) ?_
      | refine And.intro rfl ?_
      | fail
  all_goals exact RetK.pure (by simp only [rs28, ressS, resS, and_self]) (by (simp only [rs28, retV, resV, Go.Bx.get, ↓reduceIte, eq_self, VLe_bool, Go.Bx.get, ↓reduceIte, eq_self]) <;> (first | (simp [*, lossX]; done) | (simp_all [lossX]; done) | (simp only [lossX]; grind)))
def bitB (per p : Int) : Bool := IntKind.i64.wrap ((BitVec.ofInt IntKind.i64.bits (per.fdiv (2 ^ (min p.toNat IntKind.i64.bits))) &&& BitVec.ofInt IntKind.i64.bits 1).toNat : Int) == 1
def takesT (t : Tr) (x : Ls) : Bool := rightT t && lossX x && inS t.sf t.st x.day && bitB t.per x.per
theorem inB_iff {lo hi x : Int} : inB lo hi x = true ↔ lo ≤ x ∧ x ≤ hi := by
  simp [inB]
theorem lossX_iff {x : Ls} : lossX x = true ↔ (1 ≤ x.cl ∧ x.cl ≤ 1000000000) ∧ (0 ≤ x.ev ∧ x.ev ≤ 1000000000) ∧ (1 ≤ x.day ∧ x.day ≤ 292194) ∧ (0 ≤ x.per ∧ x.per ≤ 7) ∧ (0 ≤ x.amt ∧ x.amt ≤ 1000000000000000) := by
  simp only [lossX, Bool.and_eq_true, inB_iff, and_assoc]
theorem takes_side {t : Tr} {x : Ls} (h : (rightT t && lossX x && inS t.sf t.st x.day) = true) : 0 ≤ x.per := by
  simp only [Bool.and_eq_true, lossX_iff] at h
  exact h.1.2.2.2.2.1.1
theorem s23 (t : Tr) (x : Ls) : Ctr Try.prog 23 [vT t, vX x] [] (.d (.bool (takesT t x))) [] [] := by
  refine pure23 (by simp) rfl rfl ?_; intro c hP hfn; simp only [c23, vT, vX, cT, cX', vcC_seq, vcC_reg, seqK_nrm, nrmK_app, initE, vcR_nil, vcR_n, isCall, makes, newOf, opR, evS, evV, evX, Go.Bx.get, Go.Bx.own?, cellsV, isCell, cut, dropV, takeV, St.stp, Ef.stp, lgs, setE, applyU, setO, newN, Option.getD_some, List.all_cons, List.all_nil, List.length_cons, List.length_nil, List.mem_cons, List.not_mem_nil, Bool.and_self, Bool.false_eq_true, ↓reduceIte, true_and, and_self, or_false, not_false_eq_true, eq_self, Nat.reduceAdd, Nat.reduceEqDiff, Nat.zero_add, Nat.le_refl, Nat.succ_ne_self, Nat.zero_ne_one]
  repeat' first
      | (first
          | refine TR.p hP (by first | exact s26 t | exact s28 x | exact s39 ..) (by repeat' first | exact trivial | (intro _; assumption) | apply And.intro) ?_
          | refine TR.gp hP rfl (fun _ => by first | exact s26 t | exact s28 x | exact s39 ..) (fun _ => by repeat' first | exact trivial | (intro _; assumption) | apply And.intro) ?_
          | refine TR.pv hP rfl (by first | exact s26 t | exact s28 x | exact s39 ..) trivial (by repeat' first | exact trivial | (intro _; assumption) | apply And.intro) ?_
         try simp only [vcC_ret, seqK_nrm, nrmK_app, vcR_nil, vcR_n, vcR_s, isCall, makes, hasU, newOf, opR, binI, pickV, evS, evV, evX, gOf, Go.Bx.get, Go.Bx.own?, cut, nth, dropV, takeV, St.stp, Ef.stp, lgs, setE, applyU, newN, Option.getD_some, List.length_cons, List.length_nil, List.mem_cons, List.not_mem_nil, Bool.true_and, Bool.false_eq_true, Bool.cond_false_right, ↓reduceIte, true_and, and_true, and_self, or_false, not_false_eq_true, forall_const, implies_true, imp_self, eq_self, Nat.reduceAdd, Nat.reduceLeDiff, Nat.reduceEqDiff, Nat.zero_add, Nat.le_refl, Nat.succ_ne_self])
      | refine And.intro (fun h => ?_) (fun h => ?_)
      | refine And.intro (by first | omega | (simp only [maxLen, decide_eq_true_eq, decide_eq_false_iff_not] at *; omega)) ?_
      | refine And.intro rfl ?_
      | refine And.intro (fun h => takes_side h) ?_
      | fail
  all_goals exact RetK.pure (by simp only [rs23, ressS, resS, and_self]) (by (simp only [rs23, retV, resV, Go.Bx.get, ↓reduceIte, eq_self, VLe_bool, Go.Bx.get, ↓reduceIte, eq_self]) <;> (first | (simp [*, takesT, bitB]; done) | (simp_all [takesT, bitB]; done) | (simp only [takesT, bitB]; grind)))
theorem s38 (t : Tr) : Ctr Try.prog 38 [vT t] [] (.d (.bool (rightT t && t.kind != 1))) [] [] := by
  refine pure38 (by simp) rfl rfl ?_; intro c hP hfn; simp only [c38, vT, cT, vcC_seq, vcC_reg, seqK_nrm, nrmK_app, initE, vcR_nil, vcR_n, isCall, makes, newOf, opR, evS, evV, evX, Go.Bx.get, Go.Bx.own?, cellsV, isCell, cut, dropV, takeV, St.stp, Ef.stp, lgs, setE, applyU, setO, newN, Option.getD_some, List.all_cons, List.all_nil, List.length_cons, List.length_nil, List.not_mem_nil, Bool.and_self, Bool.false_eq_true, ↓reduceIte, true_and, and_self, not_false_eq_true, eq_self, Nat.reduceAdd, Nat.zero_add, Nat.le_refl, Nat.succ_ne_self]
  repeat' first
      | (first
          | refine TR.p hP (by first | exact s26 t) (by repeat' first | exact trivial | (intro _; assumption) | apply And.intro) ?_
          | refine TR.gp hP rfl (fun _ => by first | exact s26 t) (fun _ => by repeat' first | exact trivial | (intro _; assumption) | apply And.intro) ?_
          | refine TR.pv hP rfl (by first | exact s26 t) trivial (by repeat' first | exact trivial | (intro _; assumption) | apply And.intro) ?_
         try simp only [vcC_ret, seqK_nrm, nrmK_app, vcR_nil, vcR_n, vcR_s, isCall, makes, hasU, newOf, opR, binI, pickV, evS, evV, evX, gOf, Go.Bx.get, Go.Bx.own?, cut, nth, St.stp, Ef.stp, lgs, setE, applyU, newN, Option.getD_some, List.length_cons, List.length_nil, List.mem_cons, List.not_mem_nil, Bool.true_and, Bool.false_eq_true, Bool.cond_false_right, ↓reduceIte, true_and, and_true, and_self, or_false, not_false_eq_true, forall_const, implies_true, imp_self, eq_self, Nat.reduceAdd, Nat.reduceLeDiff, Nat.reduceEqDiff, Nat.zero_add, Nat.succ_ne_self])
      | refine And.intro (fun h => ?_) (fun h => ?_)
      | refine And.intro (by first | omega | (simp only [maxLen, decide_eq_true_eq, decide_eq_false_iff_not] at *; omega)) ?_
      | refine And.intro rfl ?_
      | fail
  all_goals exact RetK.pure (by simp only [rs38, ressS, resS, and_self]) (by (simp only [rs38, retV, resV, Go.Bx.get, ↓reduceIte, eq_self, VLe_refl, Go.Bx.get, ↓reduceIte, eq_self]) <;> (first | (simp [*]; done) | (simp_all []; done) | (simp only [if_true]; grind)))
def highT (t : Tr) : Bool := rightT t && t.kind != 1
def partT (t : Tr) (amt : Int) : Int := if (!(highT t) || decide (amt ≤ t.att)) = true then 0 else min t.wid (IntKind.i64.wrap (amt - t.att))
theorem high_bounds {t : Tr} (h : highT t = true) : (t.kind = 2 ∨ t.kind = 3) ∧ (0 ≤ t.att ∧ t.att ≤ 1000000000000000) ∧ (1 ≤ t.wid ∧ t.wid ≤ 1000000000000000) ∧ (0 ≤ t.aga ∧ t.aga ≤ 100) := by
  unfold highT rightT at h
  by_cases h1 : t.kind = 1
  · simp [h1] at h
  · by_cases h2 : t.kind = 2 ∨ t.kind = 3
    · rw [if_neg h1, if_pos h2] at h
      simp only [Bool.and_eq_true, inB_iff, decide_eq_true_eq] at h
      omega
    · rw [if_neg h1, if_neg h2] at h
      simp at h
def roomT (t : Tr) : Int := if (!(highT t)) = true then 0 else IntKind.i64.wrap (t.wid * IntKind.i64.wrap (1 + t.aga))
theorem s18 (t : Tr) (amt : Int) : Ctr Try.prog 18 [vT t, .d (.int .i64 amt)] [] (.d (.int .i64 (partT t amt))) [] [] := by
  refine pure18 (by simp) rfl rfl ?_; intro c hP hfn; simp only [c18, vT, cT, vcC_seq, vcC_reg, seqK_nrm, nrmK_app, initE, vcR_nil, vcR_n, isCall, makes, newOf, opR, evS, evV, evX, Go.Bx.get, Go.Bx.own?, cellsV, isCell, cut, dropV, takeV, St.stp, Ef.stp, lgs, setE, applyU, setO, newN, Option.getD_some, List.all_cons, List.all_nil, List.length_cons, List.length_nil, List.not_mem_nil, Bool.and_self, Bool.false_eq_true, ↓reduceIte, true_and, and_self, not_false_eq_true, eq_self, Nat.reduceAdd, Nat.reduceEqDiff, Nat.zero_add, Nat.le_refl]
  repeat' first
      | (first
          | refine TR.p hP (by first | exact s38 t) (by repeat' first | exact trivial | (intro _; assumption) | apply And.intro) ?_
          | refine TR.gp hP rfl (fun _ => by first | exact s38 t) (fun _ => by repeat' first | exact trivial | (intro _; assumption) | apply And.intro) ?_
          | refine TR.pv hP rfl (by first | exact s38 t) trivial (by repeat' first | exact trivial | (intro _; assumption) | apply And.intro) ?_
         try simp only [vcC_seq, vcC_reg, vcC_skip, vcC_cond, vcC_ret, seqK_nrm, seqK_ret, nrmK_app, vcR_nil, vcR_n, vcR_s, isCall, makes, hasU, newOf, opR, binI, pickV, evS, evV, evX, gOf, Go.Bx.get, Go.Bx.own?, cut, nth, St.stp, Ef.stp, lgs, setE, applyU, newN, Option.getD_some, List.length_cons, List.length_nil, List.mem_cons, List.not_mem_nil, Bool.true_and, Bool.false_eq_true, Bool.cond_true_left, ↓reduceIte, true_and, and_true, and_self, or_false, not_false_eq_true, forall_const, implies_true, imp_self, eq_self, Nat.reduceAdd, Nat.reduceLeDiff, Nat.reduceEqDiff, Nat.zero_add, Nat.succ_ne_self, Nat.zero_ne_one])
      | refine And.intro (fun h => ?_) (fun h => ?_)
      | refine And.intro (by first | omega | (simp only [maxLen, decide_eq_true_eq, decide_eq_false_iff_not] at *; omega)) ?_
      | refine And.intro rfl ?_
      | fail
  all_goals exact RetK.pure (by simp only [rs18, ressS, resS, and_self]) (by (simp only [rs18, retV, resV, Go.Bx.get, ↓reduceIte, eq_self, VLe_int, Go.Bx.get, ↓reduceIte, eq_self]) <;> (first | (simp [*, partT, highT]; done) | (simp_all [partT, highT]; done) | (simp only [partT, highT]; grind)))
theorem s20 (t : Tr) : Ctr Try.prog 20 [vT t] [] (.d (.int .i64 (roomT t))) [] [] := by
  refine pure20 (by simp) rfl rfl ?_; intro c hP hfn; simp only [c20, vT, cT, vcC_seq, vcC_reg, seqK_nrm, nrmK_app, initE, vcR_nil, vcR_n, isCall, makes, newOf, opR, evS, evV, evX, Go.Bx.get, Go.Bx.own?, cellsV, isCell, cut, dropV, takeV, St.stp, Ef.stp, lgs, setE, applyU, setO, newN, Option.getD_some, List.all_cons, List.all_nil, List.length_cons, List.length_nil, List.not_mem_nil, Bool.and_self, Bool.false_eq_true, ↓reduceIte, true_and, and_self, not_false_eq_true, eq_self, Nat.reduceAdd, Nat.zero_add, Nat.le_refl, Nat.succ_ne_self]
  repeat' first
      | (first
          | refine TR.p hP (by first | exact s38 t) (by repeat' first | exact trivial | (intro _; assumption) | apply And.intro) ?_
          | refine TR.gp hP rfl (fun _ => by first | exact s38 t) (fun _ => by repeat' first | exact trivial | (intro _; assumption) | apply And.intro) ?_
          | refine TR.pv hP rfl (by first | exact s38 t) trivial (by repeat' first | exact trivial | (intro _; assumption) | apply And.intro) ?_
         try simp only [vcC_seq, vcC_reg, vcC_skip, vcC_cond, vcC_ret, seqK_nrm, seqK_ret, nrmK_app, vcR_nil, vcR_n, isCall, makes, newOf, opR, binI, evS, evV, evX, Go.Bx.get, Go.Bx.own?, cut, nth, St.stp, Ef.stp, lgs, setE, applyU, newN, List.length_cons, List.length_nil, Bool.false_eq_true, ↓reduceIte, true_and, and_self, eq_self, Nat.reduceAdd, Nat.reduceLeDiff, Nat.reduceEqDiff, Nat.zero_add, Nat.succ_ne_self])
      | refine And.intro (fun h => ?_) (fun h => ?_)
      | refine And.intro (by first | omega | (simp only [maxLen, decide_eq_true_eq, decide_eq_false_iff_not] at *; omega)) ?_
      | refine And.intro rfl ?_
      | fail
  all_goals exact RetK.pure (by simp only [rs20, ressS, resS, and_self]) (by (simp only [rs20, retV, resV, Go.Bx.get, ↓reduceIte, eq_self, VLe_int, Go.Bx.get, ↓reduceIte, eq_self]) <;> (first | (simp [*, roomT, highT]; done) | (simp_all [roomT, highT]; done) | (simp only [roomT, highT]; grind)))
theorem s37 (k : Nat) (left amt : Int) : Ctr Try.prog 37 [.own k 0, .d (.int .i64 amt)] [(k, .fix [.d (.int .i64 left)])] (.d (.int .i64 (min amt left))) [(k, .fix [.d (.int .i64 (IntKind.i64.wrap (left - min amt left)))])] [] := by
  refine own37 (by simp) (by simp [ctrB, keysO, nodupB, V.names, ownNames, namesL]) ?_
  intro c hP hfn
  simp only [c37, namesL, V.names, ownNames, vcC_seq, vcC_reg, vcC_ret, seqK_nrm, nrmK_app, initE, vcR_nil, vcR_n, isCall, makes, newOf, opR, binI, evS, evV, evX, Go.Bx.get, Go.Bx.own?, cellsV, cut, nth, putV, St.stp, Ef.stp, lgs, setE, applyU, setO, newN, List.append_nil, List.nil_append, List.cons_append, List.length_cons, List.length_nil, List.mem_cons, List.not_mem_nil, Bool.false_eq_true, reduceCtorEq, ↓reduceIte, true_and, and_self, or_false, eq_self, Nat.reduceEqDiff, Nat.zero_add, Nat.add_zero, Nat.le_refl, Nat.succ_ne_self, Nat.zero_ne_one, or_true]
  exact RetK.mk _ (Wk.refl _ _) (by simp only [rs37, ressS, resS, and_self]) (by simp only [rs37, retV, resV, Go.Bx.get, ↓reduceIte, eq_self, VLe_refl, Go.Bx.get, ↓reduceIte, eq_self]) (by simp only [OwnLe, OLe_refl, exists_eq_left', Option.some.injEq, Go.Bx.own?, ↓reduceIte, and_self, eq_self])
theorem s35 (x : Ls) : Ctr Try.prog 35 [vX x] [] (.d (.bool (!(lossX x)))) [] [] := by
  refine pure35 (by simp) rfl rfl ?_; intro c hP hfn; simp only [c35, vX, cX', vcC_seq, vcC_reg, seqK_nrm, nrmK_app, initE, vcR_nil, vcR_n, isCall, makes, newOf, opR, evS, evV, evX, Go.Bx.get, Go.Bx.own?, cellsV, isCell, cut, dropV, takeV, St.stp, Ef.stp, lgs, setE, applyU, setO, newN, Option.getD_some, List.all_cons, List.all_nil, List.length_cons, List.length_nil, List.not_mem_nil, Bool.and_self, Bool.false_eq_true, ↓reduceIte, true_and, and_self, not_false_eq_true, eq_self, Nat.reduceAdd, Nat.zero_add, Nat.le_refl, Nat.succ_ne_self]
  repeat' first
      | (first
          | refine TR.p hP (by first | exact s28 x) (by repeat' first | exact trivial | (intro _; assumption) | apply And.intro) ?_
          | refine TR.gp hP rfl (fun _ => by first | exact s28 x) (fun _ => by repeat' first | exact trivial | (intro _; assumption) | apply And.intro) ?_
          | refine TR.pv hP rfl (by first | exact s28 x) trivial (by repeat' first | exact trivial | (intro _; assumption) | apply And.intro) ?_
         try simp only [vcC_ret, seqK_nrm, nrmK_app, vcR_nil, vcR_n, isCall, makes, newOf, opR, evS, evV, evX, Go.Bx.get, St.stp, Ef.stp, lgs, setE, applyU, newN, Bool.false_eq_true, ↓reduceIte, true_and, eq_self])
      | refine And.intro (fun h => ?_) (fun h => ?_)
      | refine And.intro (by first | omega | (simp only [maxLen, decide_eq_true_eq, decide_eq_false_iff_not] at *; omega)) ?_
      | refine And.intro rfl ?_
      | fail
  all_goals exact RetK.pure (by simp only [rs35, ressS, resS, and_self]) (by (simp only [rs35, retV, resV, Go.Bx.get, ↓reduceIte, eq_self, VLe_refl, Go.Bx.get, ↓reduceIte, eq_self]) <;> (first | (simp [*]; done) | (simp_all []; done) | (simp only [if_true]; grind)))
def idxX (p : Ls → Bool) : Nat → List Ls → Int
  | _, [] => -1
  | k, x :: r => if p x = true then (k : Int) else idxX p (k + 1) r
theorem idxX_any (p : Ls → Bool) : ∀ (l : List Ls) (k : Nat), decide (idxX p k l ≥ 0) = l.any p
  | [], k => by simp [idxX]
  | x :: r, k => by
    by_cases h : p x = true
    · simp [idxX, h]
    · simp [idxX, h]; simpa using idxX_any p r (k + 1)
theorem s50 (g : Nat) (p : Ls → Bool) (hg : ∀ x, Ctr Try.prog g [vX x] [] (.d (.bool (p x))) [] []) (l : List Ls) (hl : l.length ≤ 9223372036854775807) : Ctr Try.prog 50 [.d (slX l), .fn (.func g) [] []] [] (.d (.int .i64 (idxX p 0 l))) [] [] := by
  refine pure50 (by simp) rfl rfl ?_; intro c hP hfn; simp only [c50, slX, vcC_seq, vcC_reg, vcC_block, seqK_nrm, nrmK_app, initE, vcR_nil, vcR_n, isCall, makes, newOf, opR, evS, evV, evX, Go.Bx.get, St.stp, Ef.stp, lgs, setE, applyU, newN, Bool.false_eq_true, reduceCtorEq, ↓reduceIte, true_and, eq_self, Nat.zero_add]
  refine vcC.loop (X := Nat) (fun k => ⟨[(0, .d (slX l)), (1, .fn (.func g) [] []), (7, .d (.int .i64 l.length)), (8, .d (.int .i64 k))], [], []⟩)
    (fun k => k ≤ l.length ∧ idxX p 0 l = idxX p k (l.drop k)) (fun k => l.length - k) 0 ⟨Nat.zero_le _, rfl⟩ (Wk.of [] hfn rfl (by simp only [slX, EnvLe, VLe_refl, Go.Bx.get, reduceCtorEq, ↓reduceIte, and_self, eq_self, Nat.reduceEqDiff, Nat.succ_ne_self, Nat.zero_ne_one, Int.cast_ofNat_Int]) (by simp only [OwnLe])) ?_
  rintro k ⟨hk, he⟩
  simp only [slX, vcC_seq, vcC_reg, vcC_skip, vcC_cond, vcC_block, vcC_exit, vcC_ret, seqK_nrm, seqK_exit, blkK_exit, lopK_exit, nrmK_app, vcR_nil, vcR_n, isCall, makes, newOf, opR, binI, evS, evV, evX, Go.Bx.get, cutD, dropD, takeDV, St.stp, Ef.stp, lgs, setE, applyU, newN, List.length_cons, List.length_nil, Bool.false_eq_true, reduceCtorEq, ↓reduceIte, true_and, and_true, and_self, eq_self, Nat.reduceAdd, Nat.reduceEqDiff, Nat.zero_add, Nat.le_refl, Nat.succ_ne_self, Nat.zero_ne_one, Int.toNat_natCast]
  refine ⟨fun h1 => ?_, fun h1 => ?_⟩
  · have hlt : k < l.length := by simpa using h1
    obtain ⟨x, hd, hg', -, -⟩ := drop_at hlt
    simp only [hg']
    rw [hd, idxX] at he
    repeat' first
        | (first
            | refine TR.p hP (by first | exact hg x) (by repeat' first | exact trivial | (intro _; assumption) | apply And.intro) ?_
            | refine TR.gp hP rfl (fun _ => by first | exact hg x) (fun _ => by repeat' first | exact trivial | (intro _; assumption) | apply And.intro) ?_
            | refine TR.pv hP rfl (by first | exact hg x) trivial (by repeat' first | exact trivial | (intro _; assumption) | apply And.intro) ?_
           try simp only [vcC_seq, vcC_reg, vcC_skip, vcC_cond, vcC_ret, seqK_nrm, seqK_ret, blkK_nrm, blkK_ret, lopK_ret, nrmK_app, vcR_nil, vcR_n, isCall, makes, newOf, opR, binI, evS, evV, evX, Go.Bx.get, St.stp, Ef.stp, lgs, setE, applyU, newN, Bool.false_eq_true, reduceCtorEq, ↓reduceIte, true_and, and_self, eq_self, Nat.reduceEqDiff, Nat.succ_ne_self])
        | refine And.intro (fun h => ?_) (fun h => ?_)
        | refine And.intro (by first | omega | (simp only [maxLen, decide_eq_true_eq, decide_eq_false_iff_not] at *; omega)) ?_
        | refine And.intro rfl ?_
        | fail
    · exact RetK.pure (by simp only [rs50, ressS, resS, and_self]) (by (simp only [rs50, retV, resV, Go.Bx.get, ↓reduceIte, eq_self, VLe_int, Go.Bx.get, ↓reduceIte, eq_self]) <;> (first | rw [he, if_pos h]))
    · refine lopK.on (k + 1) ⟨hlt, ?_⟩ (by omega) (Wk.of [] hfn rfl (by simp only [EnvLe, VLe_refl, VLe_int, Go.Bx.get, reduceCtorEq, ↓reduceIte, true_and, and_true, eq_self, Nat.reduceEqDiff, Nat.succ_ne_self, Nat.zero_ne_one]; exact wS (by omega)) (by simp only [OwnLe]))
      rw [he, h]; simp
  · have hkl : k = l.length := by simp at h1; omega
    rw [hkl] at he
    exact RetK.pure (by simp only [rs50, ressS, resS, and_self]) (by (simp only [rs50, retV, resV, Go.Bx.get, ↓reduceIte, eq_self, VLe_int, Go.Bx.get, ↓reduceIte, eq_self]) <;> (first | simp [he, idxX]))
theorem s36 (g : Nat) (p : Ls → Bool) (hg : ∀ x, Ctr Try.prog g [vX x] [] (.d (.bool (p x))) [] []) (l : List Ls) (hl : l.length ≤ 9223372036854775807) : Ctr Try.prog 36 [.d (slX l), .fn (.func g) [] []] [] (.d (.bool (l.any p))) [] [] := by
  refine pure36 (by simp) rfl rfl ?_; intro c hP hfn; simp only [c36, slX, vcC_seq, vcC_reg, seqK_nrm, nrmK_app, initE, vcR_nil, vcR_n, isCall, makes, newOf, opR, evS, evV, evX, Go.Bx.get, St.stp, Ef.stp, lgs, setE, applyU, newN, Bool.false_eq_true, reduceCtorEq, ↓reduceIte, true_and, eq_self, Nat.reduceEqDiff, Nat.zero_add, Nat.zero_ne_one]
  repeat' first
      | (first
          | refine TR.p hP (by first | exact s50 g p hg l hl) (by repeat' first | exact trivial | (intro _; assumption) | apply And.intro) ?_
          | refine TR.gp hP rfl (fun _ => by first | exact s50 g p hg l hl) (fun _ => by repeat' first | exact trivial | (intro _; assumption) | apply And.intro) ?_
          | refine TR.pv hP rfl (by first | exact s50 g p hg l hl) trivial (by repeat' first | exact trivial | (intro _; assumption) | apply And.intro) ?_
         try simp only [vcC_ret, seqK_nrm, nrmK_app, vcR_nil, vcR_n, isCall, makes, newOf, opR, binI, evS, evV, evX, Go.Bx.get, St.stp, Ef.stp, lgs, setE, applyU, newN, Bool.false_eq_true, ↓reduceIte, true_and, and_self, eq_self])
      | refine And.intro (fun h => ?_) (fun h => ?_)
      | refine And.intro (by first | omega | (simp only [maxLen, decide_eq_true_eq, decide_eq_false_iff_not] at *; omega)) ?_
      | refine And.intro rfl ?_
      | fail
  exact RetK.pure (by simp only [rs36, ressS, resS, and_self]) (by (simp only [rs36, retV, resV, Go.Bx.get, ↓reduceIte, eq_self, VLe_bool, Go.Bx.get, ↓reduceIte, eq_self]) <;> (first | exact idxX_any p l 0))

def dealT (t : Tr) : Int → List Ls → List Int
  | _, [] => []
  | left, x :: r => if takesT t x = true then min (partT t x.amt) left :: dealT t (IntKind.i64.wrap (left - min (partT t x.amt) left)) r else 0 :: dealT t left r
theorem dealT_len (t : Tr) : ∀ (l : List Ls) (left : Int), (dealT t left l).length = l.length
  | [], _ => rfl
  | x :: r, left => by
    rw [dealT]; split <;> simp [dealT_len t r]
def bearsT (t : Tr) (l : List Ls) : List Int × Int :=
  if (!(rightT t) || t.kind != 2 || l.any (fun x => !(lossX x))) = true then ([], 1)
  else if l.length > 2000 then ([], 2)
  else (dealT t (roomT t) l, 0)
theorem s15 (t : Tr) (l : List Ls) (hl : l.length ≤ 9223372036854775807) : Ctr Try.prog 15 [vT t, .d (slX l)] [] (.tup [.d (slK .i64 (bearsT t l).1), .d (.int .i64 (bearsT t l).2)]) [] [] := by
  refine pure15 (by simp) rfl rfl ?_; intro c hP hfn; simp only [c15, vT, cT, slX, vcC_seq, vcC_reg, vcC_block, seqK_nrm, nrmK_app, initE, vcR_nil, vcR_n, isCall, makes, slK, newOf, opR, evS, evV, evX, Go.Bx.get, Go.Bx.own?, cellsV, isCell, cut, dropV, takeV, St.stp, Ef.stp, lgs, setE, applyU, setO, newN, Option.getD_some, List.all_cons, List.all_nil, List.length_cons, List.length_nil, List.not_mem_nil, Bool.and_self, Bool.false_eq_true, ↓reduceIte, true_and, and_self, not_false_eq_true, eq_self, Nat.reduceAdd, Nat.reduceEqDiff, Nat.zero_add, Nat.le_refl]
  repeat' first
      | (first
          | refine TR.p hP (by first | exact s26 t | exact s36 35 _ s35 l hl) (by repeat' first | exact trivial | (intro _; assumption) | apply And.intro) ?_
          | refine TR.gp hP rfl (fun _ => by first | exact s26 t | exact s36 35 _ s35 l hl) (fun _ => by repeat' first | exact trivial | (intro _; assumption) | apply And.intro) ?_
          | refine TR.pv hP rfl (by first | exact s26 t | exact s36 35 _ s35 l hl) trivial (by repeat' first | exact trivial | (intro _; assumption) | apply And.intro) ?_
         try simp only [vcC_seq, vcC_reg, vcC_skip, vcC_cond, vcC_ret, seqK_nrm, seqK_ret, blkK_nrm, blkK_ret, nrmK_app, vcR_nil, vcR_n, vcR_s, isCall, makes, hasU, newOf, opR, binI, pickV, evS, evV, evX, gOf, Go.Bx.get, Go.Bx.own?, cut, nth, dropV, takeV, St.stp, Ef.stp, lgs, setE, applyU, setO, newN, Option.getD_some, List.length_cons, List.length_nil, List.mem_cons, List.not_mem_nil, Bool.true_and, Bool.false_eq_true, Bool.cond_true_left, ↓reduceIte, true_and, and_true, and_self, or_false, not_false_eq_true, forall_const, implies_true, imp_self, eq_self, Nat.reduceAdd, Nat.reduceLeDiff, Nat.reduceEqDiff, Nat.zero_add, Nat.le_refl, Nat.succ_ne_self, Nat.zero_ne_one, Int.toNat_natCast, Int.le_refl])
      | refine And.intro (fun h => ?_) (fun h => ?_)
      | refine And.intro (by first | omega | (simp only [decide_eq_false_iff_not] at *; omega)) ?_
      | refine And.intro rfl ?_
      | fail
  · have hb : bearsT t l = ([], 1) := by simp [bearsT, h]
    (refine RetK.pure (by simp only [rs15, ressS, resS, and_self]) (VLe.tups ?_); simp only [ressV, resV, Go.Bx.get, ↓reduceIte, eq_self, Nat.succ_ne_self])
    rw [hb]; exact ⟨nilK, VLe.refl _, trivial⟩
  · rename_i h0
    have h2 : 2000 < l.length := by have := of_decide_eq_true h; omega
    have hb : bearsT t l = ([], 2) := by simp [bearsT, h0, h2]
    (refine RetK.pure (by simp only [rs15, ressS, resS, and_self]) (VLe.tups ?_); simp only [ressV, resV, Go.Bx.get, ↓reduceIte, eq_self, Nat.succ_ne_self])
    rw [hb]; exact ⟨nilK, VLe.refl _, trivial⟩
  · rename_i h0
    have h2 : ¬ l.length > 2000 := by have := of_decide_eq_false h; omega
    have hb : bearsT t l = (dealT t (roomT t) l, 0) := by simp [bearsT, h0, h2]
    repeat' first
        | (first
            | refine TR.p hP (by first | exact s20 t) (by repeat' first | exact trivial | (intro _; assumption) | apply And.intro) ?_
            | refine TR.gp hP rfl (fun _ => by first | exact s20 t) (fun _ => by repeat' first | exact trivial | (intro _; assumption) | apply And.intro) ?_
            | refine TR.pv hP rfl (by first | exact s20 t) trivial (by repeat' first | exact trivial | (intro _; assumption) | apply And.intro) ?_
           try simp only [vcC_seq, vcC_reg, vcC_block, seqK_nrm, nrmK_app, vcR_nil, vcR_n, isCall, makes, newOf, opR, evS, evV, evX, evSs, evVs, evParts, evPartsS, fillV, Go.Bx.get, cellsV, isCell, putV, St.stp, Ef.stp, lgs, setE, applyU, setO, newN, Option.getD_some, List.all_cons, List.all_nil, List.length_cons, List.length_nil, List.mem_cons, List.not_mem_nil, Bool.and_self, Bool.false_eq_true, ↓reduceIte, true_and, and_self, or_false, not_false_eq_true, eq_self, Nat.reduceEqDiff, Nat.zero_add, Nat.le_refl, Nat.succ_ne_self, Nat.zero_ne_one, decide_true])
        | refine And.intro (fun h => ?_) (fun h => ?_)
        | refine And.intro (by first | omega | (simp only [maxLen, decide_eq_true_eq, decide_eq_false_iff_not] at *; omega)) ?_
        | refine And.intro rfl ?_
        | fail
    refine vcC.loop (X := List Int × Int) (fun x => ⟨[(2, .own 2 0), (7, .osl 31), (8, .fn (.func 37) [.own 35 0] []), (37, .d (slX l)), (38, .d (.int .i64 l.length)), (39, .d (.int .i64 x.1.length))],
        [(2, .fix (cT t)), (31, .row 3 1 l.length (fun i => [.int .i64 (x.1.getD i 0)])), (35, .fix [.d (.int .i64 x.2)])], [2, 31, 35]⟩)
      (fun x => x.1.length ≤ l.length ∧ dealT t (roomT t) l = x.1 ++ dealT t x.2 (l.drop x.1.length)) (fun x => l.length - x.1.length) ([], roomT t) ⟨Nat.zero_le _, rfl⟩ (Wk.of [] hfn rfl (by simp only [slX, EnvLe, VLe_refl, Go.Bx.get, List.length_nil, ↓reduceIte, and_self, eq_self, Nat.reduceEqDiff, Nat.succ_ne_self, Int.cast_ofNat_Int]) (by simp only [cT, OwnLe, OLe_refl, exists_eq_left', Option.some.injEq, Go.Bx.own?, ↓reduceIte, true_and, and_true, and_self, eq_self, Nat.reduceEqDiff]; exact OLe.row rfl fun i _ => by simp)) ?_
    rintro ⟨dn, left⟩ ⟨hk, he⟩
    simp only at hk he
    simp only [slX, cT, vcC_seq, vcC_reg, vcC_skip, vcC_cond, vcC_block, vcC_exit, vcC_ret, seqK_nrm, seqK_exit, blkK_exit, lopK_exit, nrmK_app, vcR_nil, vcR_n, isCall, makes, newOf, opR, binI, evS, evV, evX, Go.Bx.get, Go.Bx.own?, cellsV, isCell, cut, cutD, dropV, takeV, dropD, takeDV, putV, St.stp, Ef.stp, lgs, setE, applyU, setO, newN, Option.getD_some, List.all_cons, List.all_nil, List.length_cons, List.length_nil, List.mem_cons, List.not_mem_nil, Bool.and_self, Bool.false_eq_true, ↓reduceIte, true_and, and_true, and_self, or_false, not_false_eq_true, eq_self, Nat.reduceAdd, Nat.reduceEqDiff, Nat.zero_add, Nat.le_refl, Nat.succ_ne_self, Int.toNat_natCast]
    refine ⟨fun h1 => ?_, fun h1 => ?_⟩
    · have hlt : dn.length < l.length := by simpa using h1
      obtain ⟨x, hd, hg, -, -⟩ := drop_at hlt
      simp only [hg]
      rw [hd, dealT] at he
      repeat' first
          | (first
              | refine TR.p hP (by first | exact s23 t x | exact s18 t x.amt) (by repeat' first | exact trivial | (intro _; assumption) | apply And.intro) ?_
              | refine TR.gp hP rfl (fun _ => by first | exact s23 t x | exact s18 t x.amt) (fun _ => by repeat' first | exact trivial | (intro _; assumption) | apply And.intro) ?_
              | refine TR.pv hP rfl (by first | exact s23 t x | exact s18 t x.amt) trivial (by repeat' first | exact trivial | (intro _; assumption) | apply And.intro) ?_
             try simp only [vcC_reg, vcC_skip, vcC_cond, seqK_nrm, blkK_nrm, nrmK_app, vcR_nil, vcR_n, isCall, makes, newOf, opR, binI, evS, evV, evX, Go.Bx.get, Go.Bx.own?, cut, nth, dropV, takeV, St.stp, Ef.stp, lgs, setE, applyU, newN, List.length_cons, List.length_nil, Bool.false_eq_true, ↓reduceIte, true_and, and_self, eq_self, Nat.reduceAdd, Nat.reduceEqDiff, Nat.zero_add, Nat.le_refl, Nat.succ_ne_self])
          | refine And.intro (fun h => ?_) (fun h => ?_)
          | refine And.intro (by first | omega | (simp only [maxLen, decide_eq_true_eq, decide_eq_false_iff_not] at *; omega)) ?_
          | refine And.intro rfl ?_
          | fail
      · refine TR.cv1 hP rfl (s37 35 left _) trivial (by repeat' first | exact trivial | (intro _; assumption) | apply And.intro) (by simp only [Go.Bx.own?, ↓reduceIte, eq_self, Nat.reduceEqDiff]) ?_
        simp only [vcC_reg, seqK_nrm, blkK_nrm, nrmK_app, vcR_nil, vcR_n, isCall, makes, newOf, opR, binI, evS, evV, evX, Go.Bx.get, Go.Bx.own?, cellsV, toDs, St.stp, Ef.stp, lgs, setE, applyU, setO, delO, newN, Option.map_some, List.length_cons, List.length_nil, List.mem_cons, List.not_mem_nil, Bool.false_eq_true, ↓reduceIte, true_and, and_true, and_self, or_false, eq_self, Nat.reduceEqDiff, Nat.zero_add, Nat.le_refl, Nat.succ_ne_self, Int.toNat_natCast, or_true]
        refine ⟨⟨by omega, by omega⟩, by omega, lopK.on (dn ++ [min (partT t x.amt) left], IntKind.i64.wrap (left - min (partT t x.amt) left)) ⟨by simp; omega, ?_⟩ (by simp; omega) (Wk.of [] hfn rfl (by simp only [EnvLe, VLe_refl, VLe_int, Go.Bx.get, ↓reduceIte, true_and, and_true, eq_self, Nat.reduceEqDiff, Nat.succ_ne_self]; rw [List.length_append]; exact wS (by omega)) (by simp only [OwnLe, OLe_refl, exists_eq_left', Option.some.injEq, Go.Bx.own?, ↓reduceIte, true_and, and_true, and_self, eq_self, Nat.reduceEqDiff]; exact OLe.snoc))⟩
        rw [he, if_pos h]; simp
      · refine lopK.on (dn ++ [0], left) ⟨by simp; omega, ?_⟩ (by simp; omega) (Wk.of [] hfn rfl (by simp only [EnvLe, VLe_refl, VLe_int, Go.Bx.get, ↓reduceIte, true_and, and_true, eq_self, Nat.reduceEqDiff, Nat.succ_ne_self]; rw [List.length_append]; exact wS (by omega)) (by simp only [OwnLe, OLe_refl, exists_eq_left', Option.some.injEq, Go.Bx.own?, ↓reduceIte, true_and, and_true, and_self, eq_self, Nat.reduceEqDiff]; exact OLe.snoc0))
        rw [he, if_neg (by simp [h])]; simp
    · have hkl : dn.length = l.length := by simp at h1; omega
      rw [hkl] at he
      simp only [List.drop_length, dealT, List.append_nil] at he
      refine RetK.mk _ (Wk.pub 31 rfl) (by simp only [rs15, ressS, resS, delO, ↓reduceIte, and_self, eq_self, Nat.reduceEqDiff, pubE, pubV, pubL, pubO]) ?_ trivial
      simp only [rs15, retV, ressV, resV, Go.Bx.get, ↓reduceIte, eq_self, Nat.succ_ne_self, pubE, pubV]
      rw [hb, he]
      exact VLe.tups ⟨VLe.sl hkl.symm (fun _ => rfl) id fun i hi => rfl, VLe.refl _, trivial⟩

/-! The document's answer. -/
theorem s52 (f t : Int) : Ctr Try.prog 52 [vS f t] [] (.d (.bool (okS f t))) [] [] := by
  refine pure52 (by simp) rfl rfl ?_; intro c hP hfn; simp only [c52, vS, vcC_seq, vcC_reg, vcC_ret, seqK_nrm, nrmK_app, initE, vcR_nil, vcR_n, vcR_s, isCall, makes, hasU, newOf, opR, binI, pickV, evS, evV, evX, gOf, Go.Bx.get, Go.Bx.own?, cellsV, isCell, cut, nth, St.stp, Ef.stp, lgs, setE, applyU, setO, newN, Option.getD_some, List.all_cons, List.all_nil, List.length_cons, List.length_nil, List.mem_cons, List.not_mem_nil, Bool.true_and, Bool.and_self, Bool.false_eq_true, Bool.cond_false_right, ↓reduceIte, true_and, and_true, and_self, or_false, not_false_eq_true, forall_const, implies_true, imp_self, eq_self, Nat.reduceAdd, Nat.reduceLeDiff, Nat.reduceEqDiff, Nat.zero_add, Nat.add_zero, Nat.le_refl, Nat.succ_ne_self]
  exact RetK.pure (by simp only [rs52, ressS, resS, and_self]) (by simp only [rs52, retV, resV, Go.Bx.get, ↓reduceIte, eq_self, VLe_refl, Go.Bx.get, ↓reduceIte, eq_self, okS])
theorem manyR_eq (f t : Int) : manyR f t = if okS f t = true then IntKind.i64.wrap (t - f) else 0 := by
  unfold manyR keptR
  by_cases h : okS f t = true
  · by_cases h2 : f = t
    · subst h2; simp [h]
    · simp [h, h2]
  · simp [h, wI]
theorem s44 (f t : Int) : Ctr Try.prog 44 [vS f t] [] (.d (.int .i64 (manyR f t))) [] [] := by
  refine pure44 (by simp) rfl rfl ?_; intro c hP hfn; simp only [c44, vS, vcC_seq, vcC_reg, seqK_nrm, nrmK_app, initE, vcR_nil, vcR_n, isCall, makes, newOf, opR, evS, evV, evX, Go.Bx.get, Go.Bx.own?, cellsV, isCell, cut, dropV, takeV, St.stp, Ef.stp, lgs, setE, applyU, setO, newN, Option.getD_some, List.all_cons, List.all_nil, List.length_cons, List.length_nil, List.not_mem_nil, Bool.and_self, Bool.false_eq_true, ↓reduceIte, true_and, and_self, not_false_eq_true, eq_self, Nat.reduceAdd, Nat.zero_add, Nat.le_refl, Nat.succ_ne_self]
  repeat' first
      | (first
          | refine TR.p hP (by first | exact s52 ..) (by repeat' first | exact trivial | (intro _; assumption) | apply And.intro) ?_
          | refine TR.gp hP rfl (fun _ => by first | exact s52 ..) (fun _ => by repeat' first | exact trivial | (intro _; assumption) | apply And.intro) ?_
          | refine TR.pv hP rfl (by first | exact s52 ..) trivial (by repeat' first | exact trivial | (intro _; assumption) | apply And.intro) ?_
         try simp only [vcC_seq, vcC_reg, vcC_skip, vcC_cond, vcC_ret, seqK_nrm, seqK_ret, nrmK_app, vcR_nil, vcR_n, isCall, makes, newOf, opR, binI, evS, evV, evX, Go.Bx.get, Go.Bx.own?, cut, nth, St.stp, Ef.stp, lgs, setE, applyU, newN, List.length_cons, List.length_nil, Bool.false_eq_true, ↓reduceIte, true_and, and_self, eq_self, Nat.reduceAdd, Nat.reduceLeDiff, Nat.reduceEqDiff, Nat.zero_add, Nat.add_zero, Nat.le_refl, Nat.succ_ne_self])
      | refine And.intro (fun h => ?_) (fun h => ?_)
      | refine And.intro (by first | omega | (simp only [maxLen, decide_eq_true_eq, decide_eq_false_iff_not] at *; omega)) ?_
      | refine And.intro rfl ?_
      | fail
  all_goals exact RetK.pure (by simp only [rs44, ressS, resS, and_self]) (by (simp only [rs44, retV, resV, Go.Bx.get, ↓reduceIte, eq_self, VLe_int, Go.Bx.get, ↓reduceIte, eq_self]) <;> (first | (simp [*, manyR_eq]; done) | (simp_all [manyR_eq]; done) | (simp only [manyR_eq]; grind)))
theorem inS_eq (f t d : Int) : inS f t d = (okS f t && decide (f ≤ d) && decide (d < t)) := by
  unfold inS keptR
  by_cases h : okS f t = true
  · by_cases h2 : f = t
    · subst h2; simp only [h, beq_self_eq_true, Bool.or_true, if_true, Bool.true_and]; rw [Bool.eq_iff_iff]; simp; omega
    · simp [h, h2]
  · simp only [h, Bool.not_false, Bool.true_or, if_true, Bool.false_and, Bool.and_eq_false_iff, decide_eq_false_iff_not]; omega
theorem s45 (f t d : Int) : Ctr Try.prog 45 [vS f t, .d (.int .i64 d)] [] (.d (.bool (inS f t d))) [] [] := by
  refine pure45 (by simp) rfl rfl ?_; intro c hP hfn; simp only [c45, vS, vcC_seq, vcC_reg, seqK_nrm, nrmK_app, initE, vcR_nil, vcR_n, isCall, makes, newOf, opR, evS, evV, evX, Go.Bx.get, Go.Bx.own?, cellsV, isCell, cut, dropV, takeV, St.stp, Ef.stp, lgs, setE, applyU, setO, newN, Option.getD_some, List.all_cons, List.all_nil, List.length_cons, List.length_nil, List.not_mem_nil, Bool.and_self, Bool.false_eq_true, ↓reduceIte, true_and, and_self, not_false_eq_true, eq_self, Nat.reduceAdd, Nat.reduceEqDiff, Nat.zero_add, Nat.le_refl]
  repeat' first
      | (first
          | refine TR.p hP (by first | exact s52 ..) (by repeat' first | exact trivial | (intro _; assumption) | apply And.intro) ?_
          | refine TR.gp hP rfl (fun _ => by first | exact s52 ..) (fun _ => by repeat' first | exact trivial | (intro _; assumption) | apply And.intro) ?_
          | refine TR.pv hP rfl (by first | exact s52 ..) trivial (by repeat' first | exact trivial | (intro _; assumption) | apply And.intro) ?_
         try simp only [vcC_ret, seqK_nrm, nrmK_app, vcR_nil, vcR_n, vcR_s, isCall, makes, hasU, newOf, opR, binI, pickV, evS, evV, evX, gOf, Go.Bx.get, Go.Bx.own?, cut, nth, St.stp, Ef.stp, lgs, setE, applyU, newN, Option.getD_some, List.length_cons, List.length_nil, List.mem_cons, List.not_mem_nil, Bool.true_and, Bool.false_eq_true, Bool.cond_false_right, ↓reduceIte, true_and, and_true, and_self, or_false, not_false_eq_true, forall_const, implies_true, imp_self, eq_self, Nat.reduceAdd, Nat.reduceLeDiff, Nat.reduceEqDiff, Nat.zero_add, Nat.add_zero, Nat.le_refl, Nat.succ_ne_self, Nat.zero_ne_one])
      | refine And.intro (fun h => ?_) (fun h => ?_)
      | refine And.intro (by first | omega | (simp only [maxLen, decide_eq_true_eq, decide_eq_false_iff_not] at *; omega)) ?_
      | refine And.intro rfl ?_
      | fail
  all_goals exact RetK.pure (by simp only [rs45, ressS, resS, and_self]) (by (simp only [rs45, retV, resV, Go.Bx.get, ↓reduceIte, eq_self, VLe_bool, Go.Bx.get, ↓reduceIte, eq_self]) <;> (first | (simp [*, inS_eq]; done) | (simp_all [inS_eq]; done) | (simp only [inS_eq]; grind)))
theorem s43 (x lo hi : Int) : Ctr Try.prog 43 [.d (.int .i64 x), .d (.int .i64 lo), .d (.int .i64 hi)] [] (.d (.bool (inB lo hi x))) [] [] := by
  refine pure43 (by simp) rfl rfl ?_; intro c hP hfn; simp only [c43, vcC_seq, vcC_reg, vcC_ret, seqK_nrm, nrmK_app, initE, vcR_nil, vcR_n, vcR_s, isCall, makes, hasU, newOf, opR, binI, pickV, evS, evV, evX, gOf, Go.Bx.get, St.stp, Ef.stp, lgs, setE, applyU, newN, Option.getD_some, List.not_mem_nil, Bool.true_and, Bool.false_eq_true, Bool.cond_false_right, reduceCtorEq, ↓reduceIte, true_and, and_true, and_self, not_false_eq_true, forall_const, implies_true, imp_self, eq_self, Nat.reduceAdd, Nat.reduceEqDiff, Nat.zero_add, Nat.succ_ne_self, Nat.zero_ne_one]
  all_goals exact RetK.pure (by simp only [rs43, ressS, resS, and_self]) (by (simp only [rs43, retV, resV, Go.Bx.get, ↓reduceIte, eq_self, VLe_bool, Go.Bx.get, ↓reduceIte, eq_self]) <;> (first | (simp [*, inB]; done) | (simp_all [inB]; done) | (simp only [inB]; grind)))
theorem s29 (x : Ls) : Ctr Try.prog 29 [vX x] [] (.d (.bool (lossX x))) [] [] := by
  refine pure29 (by simp) rfl rfl ?_; intro c hP hfn; simp only [c29, vX, cX', vcC_seq, vcC_reg, seqK_nrm, nrmK_app, initE, vcR_nil, vcR_n, isCall, makes, newOf, opR, evS, evV, evX, Go.Bx.get, Go.Bx.own?, cellsV, isCell, cut, nth, St.stp, Ef.stp, lgs, setE, applyU, setO, newN, Option.getD_some, List.all_cons, List.all_nil, List.length_cons, List.length_nil, List.not_mem_nil, Bool.and_self, Bool.false_eq_true, ↓reduceIte, true_and, and_self, not_false_eq_true, eq_self, Nat.reduceAdd, Nat.reduceLeDiff, Nat.zero_add, Nat.add_zero, Nat.succ_ne_self]
  repeat' first
      | (first
          | refine TR.p hP (by first | exact s43 ..) (by repeat' first | exact trivial | (intro _; assumption) | apply And.intro) ?_
          | refine TR.gp hP rfl (fun _ => by first | exact s43 ..) (fun _ => by repeat' first | exact trivial | (intro _; assumption) | apply And.intro) ?_
          | refine TR.pv hP rfl (by first | exact s43 ..) trivial (by repeat' first | exact trivial | (intro _; assumption) | apply And.intro) ?_
         try simp only [vcC_ret, seqK_nrm, nrmK_app, vcR_nil, vcR_n, vcR_s, isCall, makes, hasU, newOf, opR, pickV, evS, evV, evX, gOf, Go.Bx.get, Go.Bx.own?, cut, nth, St.stp, Ef.stp, lgs, setE, applyU, newN, Option.getD_some, List.length_cons, List.length_nil, List.mem_cons, List.not_mem_nil, Bool.true_and, Bool.false_eq_true, Bool.cond_false_right, ↓reduceIte, true_and, and_true, and_self, or_false, not_false_eq_true, forall_const, implies_true, imp_self, eq_self, Nat.reduceAdd, Nat.reduceLeDiff, Nat.reduceEqDiff, Nat.zero_add, Nat.le_refl, Nat.succ_ne_self])
      | refine And.intro (fun h => ?_) (fun h => ?_)
      | refine And.intro (by first | omega | (simp only [maxLen, decide_eq_true_eq, decide_eq_false_iff_not] at *; omega)) ?_
      | refine And.intro rfl ?_
      | fail
  all_goals exact RetK.pure (by simp only [rs29, ressS, resS, and_self]) (by (simp only [rs29, retV, resV, Go.Bx.get, ↓reduceIte, eq_self, VLe_bool, Go.Bx.get, ↓reduceIte, eq_self]) <;> (first | (simp [*, lossX]; done) | (simp_all [lossX]; done) | (simp only [lossX]; grind)))
theorem s27 (t : Tr) : Ctr Try.prog 27 [vT t] [] (.d (.bool (rightT t))) [] [] := by
  refine pure27 (by simp) rfl rfl ?_; intro c hP hfn; simp only [c27, vT, cT, vcC_seq, vcC_reg, seqK_nrm, nrmK_app, initE, vcR_nil, vcR_n, isCall, makes, newOf, opR, evS, evV, evX, Go.Bx.get, Go.Bx.own?, cellsV, isCell, cut, nth, St.stp, Ef.stp, lgs, setE, applyU, setO, newN, Option.getD_some, List.all_cons, List.all_nil, List.length_cons, List.length_nil, List.not_mem_nil, Bool.and_self, Bool.false_eq_true, ↓reduceIte, true_and, and_self, not_false_eq_true, eq_self, Nat.reduceAdd, Nat.reduceLeDiff, Nat.zero_add, Nat.add_zero, Nat.succ_ne_self]
  repeat' first
      | (first
          | refine TR.p hP (by first | exact s43 .. | exact s44 ..) (by repeat' first | exact trivial | (intro _; assumption) | apply And.intro) ?_
          | refine TR.gp hP rfl (fun _ => by first | exact s43 .. | exact s44 ..) (fun _ => by repeat' first | exact trivial | (intro _; assumption) | apply And.intro) ?_
          | refine TR.pv hP rfl (by first | exact s43 .. | exact s44 ..) trivial (by repeat' first | exact trivial | (intro _; assumption) | apply And.intro) ?_
         try simp only [vcC_seq, vcC_reg, vcC_skip, vcC_cond, vcC_ret, seqK_nrm, seqK_ret, nrmK_app, vcR_nil, vcR_n, vcR_s, isCall, makes, hasU, newOf, opR, binI, pickV, evS, evV, evX, gOf, Go.Bx.get, Go.Bx.own?, cut, nth, dropV, takeV, St.stp, Ef.stp, lgs, setE, applyU, newN, Option.getD_some, List.length_cons, List.length_nil, List.mem_cons, List.not_mem_nil, Bool.true_and, Bool.false_eq_true, Bool.cond_true_left, Bool.cond_false_right, ↓reduceIte, true_and, and_true, and_self, or_false, not_false_eq_true, forall_const, implies_true, imp_self, eq_self, Nat.reduceAdd, Nat.reduceLeDiff, Nat.reduceEqDiff, Nat.zero_add, Nat.le_refl, Nat.succ_ne_self])
      | refine And.intro (fun h => ?_) (fun h => ?_)
      | refine And.intro (by first | omega | (simp only [maxLen, decide_eq_true_eq, decide_eq_false_iff_not] at *; omega)) ?_
      | refine And.intro rfl ?_
      | fail
  all_goals exact RetK.pure (by simp only [rs27, ressS, resS, and_self]) (by (simp only [rs27, retV, resV, Go.Bx.get, ↓reduceIte, eq_self, VLe_bool, Go.Bx.get, ↓reduceIte, eq_self]) <;> (first | rw [Bool.eq_iff_iff]; simp_all [rightT, inB]; done | (rw [Bool.eq_iff_iff]; simp_all [rightT, inB]; omega)))
def perilN : Nat → Int → Int
  | 0, a => a
  | n + 1, a => perilN n (IntKind.i64.wrap (a.tdiv 2))
theorem s46 (per p : Int) (hp : p ≤ 9223372036854775807) : Ctr Try.prog 46 [.d (.int .i64 per), .d (.int .i64 p)] [] (.d (.bool ((perilN p.toNat per).tmod 2 == 1))) [] [] := by
  refine pure46 (by simp) rfl rfl ?_; intro c hP hfn; simp only [c46, vcC_seq, vcC_reg, vcC_block, seqK_nrm, nrmK_app, initE, vcR_nil, vcR_n, isCall, makes, newOf, opR, evS, evV, evX, St.stp, Ef.stp, lgs, setE, applyU, newN, Bool.false_eq_true, ↓reduceIte, true_and, Nat.zero_add]
  refine vcC.loop (X := Nat × Int) (fun x => ⟨[(0, .d (.int .i64 x.2)), (1, .d (.int .i64 p)), (5, .d (.int .i64 x.1))], [], []⟩)
    (fun x => x.1 ≤ p.toNat ∧ perilN p.toNat per = perilN (p.toNat - x.1) x.2) (fun x => p.toNat - x.1) (0, per) ⟨Nat.zero_le _, rfl⟩ (Wk.of [] hfn rfl (by simp only [EnvLe, VLe_refl, Go.Bx.get, reduceCtorEq, ↓reduceIte, and_self, eq_self, Nat.reduceEqDiff, Nat.zero_ne_one, Int.cast_ofNat_Int]) (by simp only [OwnLe])) ?_
  rintro ⟨k, a⟩ ⟨hk, he⟩
  simp only at hk he
  simp only [vcC_seq, vcC_reg, vcC_skip, vcC_cond, vcC_block, vcC_exit, vcC_ret, seqK_nrm, seqK_exit, blkK_nrm, blkK_exit, lopK_exit, nrmK_app, vcR_nil, vcR_n, isCall, makes, newOf, opR, binI, evS, evV, evX, Go.Bx.get, St.stp, Ef.stp, lgs, setE, applyU, newN, Bool.false_eq_true, reduceCtorEq, ↓reduceIte, true_and, and_self, eq_self, ne_eq, Nat.reduceEqDiff, Nat.succ_ne_self, Nat.zero_ne_one]
  refine ⟨fun h1 => ?_, fun h1 => ?_⟩
  · have hlt : (k : Int) < p := of_decide_eq_true h1
    have e : p.toNat - k = (p.toNat - (k + 1)) + 1 := by omega
    rw [e, perilN] at he
    repeat' first
        | (first
            | refine TR.p hP (by first | fail) (by repeat' first | exact trivial | (intro _; assumption) | apply And.intro) ?_
            | refine TR.gp hP rfl (fun _ => by first | fail) (fun _ => by repeat' first | exact trivial | (intro _; assumption) | apply And.intro) ?_
            | refine TR.pv hP rfl (by first | fail) trivial (by repeat' first | exact trivial | (intro _; assumption) | apply And.intro) ?_
           try simp only [↓evSo_some, vcC_seq, vcC_reg, vcC_drw, vcC_skip, vcC_cond, vcC_block, vcC_exit, vcC_ret, vcC_bad, seqK_nrm, seqK_exit, seqK_ret, blkK_nrm, blkK_exit, blkK_ret, lopK_exit, lopK_ret, lopX_exit, lopX_ret, nrmK_app, drwK_app, initE, vcR_nil, vcR_n, vcR_s, isCall, makes, hasU, slK, newOf, opR, binI, pickV, evS, evV, evX, evSs, evVs, evParts, evPartsS, fillV, catV, gOf, Go.Bx.get, Go.Bx.own?, cellsV, isCell, cut, cutD, nth, nthD, dropV, takeV, dropD, takeDV, putV, toDs, St.stp, Ef.stp, Stp.lg, lgs, setE, applyU, setO, delO, newN, keysO, callU, Ef.bad, Option.getD_some, Option.getD_none, Option.map_some, Option.map_none, List.all_cons, List.all_nil, List.map_cons, List.map_nil, List.append_nil, List.nil_append, List.cons_append, List.length_cons, List.length_nil, List.mem_cons, List.not_mem_nil, Bool.and_true, Bool.true_and, Bool.and_self, Bool.not_true, Bool.not_false, Bool.or_self, Bool.or_false, Bool.false_or, Bool.false_eq_true, Bool.true_eq_false, Bool.cond_true_left, Bool.cond_false_right, cond_true, cond_false, reduceCtorEq, ↓reduceIte, if_true, if_false, true_and, and_true, and_self, false_and, and_false, or_false, false_or, not_false_eq_true, not_true_eq_false, forall_const, true_implies, false_implies, implies_true, imp_self, eq_self, ne_eq, Nat.reduceAdd, Nat.reduceSub, Nat.reduceMul, Nat.reduceLeDiff, Nat.reduceEqDiff, Nat.zero_add, Nat.add_zero, Nat.le_refl, Nat.succ_ne_self, Nat.one_ne_zero, Nat.zero_ne_one, Int.toNat_natCast, litRow, List.drop_succ_cons, List.drop_zero, List.take_succ_cons, List.take_zero, pubE, pubV, pubL, pubO, eqS, eqB, Nat.reduceLT, Nat.not_lt_zero, Nat.sub_zero, decide_true, decide_false, true_or, or_true, Int.le_refl, Int.cast_ofNat_Int, Int.reduceToNat, Int.reduceLT, Int.reduceLE, beq_self_eq_true, Nat.mul_one, Nat.one_mul, Nat.zero_mul])
        | refine And.intro (fun h => ?_) (fun h => ?_)
        | refine And.intro (by first | omega | (simp only [maxLen, decide_eq_true_eq, decide_eq_false_iff_not] at *; omega)) ?_
        | refine And.intro rfl ?_
        | fail
    exact lopK.on (k + 1, IntKind.i64.wrap (a.tdiv 2)) ⟨by simp only; omega, he⟩ (by simp only; omega) (Wk.of [] hfn rfl (by simp only [EnvLe, VLe_refl, VLe_int, Go.Bx.get, reduceCtorEq, ↓reduceIte, true_and, and_true, eq_self, Nat.reduceEqDiff, Nat.zero_ne_one]; exact wS (by omega)) (by simp only [OwnLe]))
  · have hlt : ¬ (k : Int) < p := of_decide_eq_false h1
    have e : p.toNat - k = 0 := by omega
    rw [e, perilN] at he
    repeat' first
        | (first
            | refine TR.p hP (by first | fail) (by repeat' first | exact trivial | (intro _; assumption) | apply And.intro) ?_
            | refine TR.gp hP rfl (fun _ => by first | fail) (fun _ => by repeat' first | exact trivial | (intro _; assumption) | apply And.intro) ?_
            | refine TR.pv hP rfl (by first | fail) trivial (by repeat' first | exact trivial | (intro _; assumption) | apply And.intro) ?_
           try simp only [↓evSo_some, vcC_seq, vcC_reg, vcC_drw, vcC_skip, vcC_cond, vcC_block, vcC_exit, vcC_ret, vcC_bad, seqK_nrm, seqK_exit, seqK_ret, blkK_nrm, blkK_exit, blkK_ret, lopK_exit, lopK_ret, lopX_exit, lopX_ret, nrmK_app, drwK_app, initE, vcR_nil, vcR_n, vcR_s, isCall, makes, hasU, slK, newOf, opR, binI, pickV, evS, evV, evX, evSs, evVs, evParts, evPartsS, fillV, catV, gOf, Go.Bx.get, Go.Bx.own?, cellsV, isCell, cut, cutD, nth, nthD, dropV, takeV, dropD, takeDV, putV, toDs, St.stp, Ef.stp, Stp.lg, lgs, setE, applyU, setO, delO, newN, keysO, callU, Ef.bad, Option.getD_some, Option.getD_none, Option.map_some, Option.map_none, List.all_cons, List.all_nil, List.map_cons, List.map_nil, List.append_nil, List.nil_append, List.cons_append, List.length_cons, List.length_nil, List.mem_cons, List.not_mem_nil, Bool.and_true, Bool.true_and, Bool.and_self, Bool.not_true, Bool.not_false, Bool.or_self, Bool.or_false, Bool.false_or, Bool.false_eq_true, Bool.true_eq_false, Bool.cond_true_left, Bool.cond_false_right, cond_true, cond_false, reduceCtorEq, ↓reduceIte, if_true, if_false, true_and, and_true, and_self, false_and, and_false, or_false, false_or, not_false_eq_true, not_true_eq_false, forall_const, true_implies, false_implies, implies_true, imp_self, eq_self, ne_eq, Nat.reduceAdd, Nat.reduceSub, Nat.reduceMul, Nat.reduceLeDiff, Nat.reduceEqDiff, Nat.zero_add, Nat.add_zero, Nat.le_refl, Nat.succ_ne_self, Nat.one_ne_zero, Nat.zero_ne_one, Int.toNat_natCast, litRow, List.drop_succ_cons, List.drop_zero, List.take_succ_cons, List.take_zero, pubE, pubV, pubL, pubO, eqS, eqB, Nat.reduceLT, Nat.not_lt_zero, Nat.sub_zero, decide_true, decide_false, true_or, or_true, Int.le_refl, Int.cast_ofNat_Int, Int.reduceToNat, Int.reduceLT, Int.reduceLE, beq_self_eq_true, Nat.mul_one, Nat.one_mul, Nat.zero_mul])
        | refine And.intro (fun h => ?_) (fun h => ?_)
        | refine And.intro (by first | omega | (simp only [maxLen, decide_eq_true_eq, decide_eq_false_iff_not] at *; omega)) ?_
        | refine And.intro rfl ?_
        | fail
    exact RetK.pure (by simp only [rs46, ressS, resS, and_self]) (by (simp only [rs46, retV, resV, Go.Bx.get, ↓reduceIte, eq_self, VLe_bool, Go.Bx.get, ↓reduceIte, eq_self]) <;> (first | rw [he]))
theorem bitB_all : ((List.range 256).all fun m => (List.range 8).all fun p => bitB (m : Int) (p : Int) == ((perilN p (m : Int)).tmod 2 == 1)) = true := by decide +kernel
theorem bitB_eq {per p : Int} (h1 : 0 ≤ per) (h2 : per ≤ 255) (h3 : 0 ≤ p) (h4 : p ≤ 7) : bitB per p = ((perilN p.toNat per).tmod 2 == 1) := by
  have h := List.all_eq_true.1 (List.all_eq_true.1 bitB_all per.toNat (by simp; omega)) p.toNat (by simp; omega)
  have e1 : (per.toNat : Int) = per := by omega
  have e2 : (p.toNat : Int) = p := by omega
  rw [e1, e2] at h
  exact eq_of_beq h
theorem rightT_per {t : Tr} (h : rightT t = true) : 1 ≤ t.per ∧ t.per ≤ 255 := by
  simp only [rightT, Bool.and_eq_true, Bool.not_eq_true', Bool.or_eq_false_iff, Bool.not_eq_false', inB_iff] at h
  exact h.1.2
theorem takesT_eq (t : Tr) (x : Ls) : takesT t x = (rightT t && lossX x && inS t.sf t.st x.day && ((perilN x.per.toNat t.per).tmod 2 == 1)) := by
  unfold takesT
  by_cases h : (rightT t && lossX x && inS t.sf t.st x.day) = true
  · have h' := h
    simp only [Bool.and_eq_true, lossX_iff] at h'
    have := rightT_per h'.1.1
    rw [bitB_eq (by omega) (by omega) (by omega) (by omega)]
  · simp only [h, Bool.false_and]
theorem s30 (t : Tr) (x : Ls) (hx : x.per ≤ 9223372036854775807) : Ctr Try.prog 30 [vT t, vX x] [] (.d (.bool (takesT t x))) [] [] := by
  refine pure30 (by simp) rfl rfl ?_; intro c hP hfn; simp only [c30, vT, vX, cT, cX', vcC_seq, vcC_reg, seqK_nrm, nrmK_app, initE, vcR_nil, vcR_n, isCall, makes, newOf, opR, evS, evV, evX, Go.Bx.get, Go.Bx.own?, cellsV, isCell, cut, dropV, takeV, St.stp, Ef.stp, lgs, setE, applyU, setO, newN, Option.getD_some, List.all_cons, List.all_nil, List.length_cons, List.length_nil, List.mem_cons, List.not_mem_nil, Bool.and_self, Bool.false_eq_true, ↓reduceIte, true_and, and_self, or_false, not_false_eq_true, eq_self, Nat.reduceAdd, Nat.reduceEqDiff, Nat.zero_add, Nat.le_refl, Nat.succ_ne_self, Nat.zero_ne_one]
  repeat' first
      | (first
          | refine TR.p hP (by first | exact s27 t | exact s29 x | exact s45 .. | exact s46 _ _ hx) (by repeat' first | exact trivial | (intro _; assumption) | apply And.intro) ?_
          | refine TR.gp hP rfl (fun _ => by first | exact s27 t | exact s29 x | exact s45 .. | exact s46 _ _ hx) (fun _ => by repeat' first | exact trivial | (intro _; assumption) | apply And.intro) ?_
          | refine TR.pv hP rfl (by first | exact s27 t | exact s29 x | exact s45 .. | exact s46 _ _ hx) trivial (by repeat' first | exact trivial | (intro _; assumption) | apply And.intro) ?_
         try simp only [vcC_ret, seqK_nrm, nrmK_app, vcR_nil, vcR_n, vcR_s, isCall, makes, hasU, newOf, opR, pickV, evS, evV, evX, gOf, Go.Bx.get, Go.Bx.own?, cut, nth, dropV, takeV, St.stp, Ef.stp, lgs, setE, applyU, newN, Option.getD_some, List.length_cons, List.length_nil, List.mem_cons, List.not_mem_nil, Bool.true_and, Bool.false_eq_true, Bool.cond_false_right, ↓reduceIte, true_and, and_true, and_self, or_false, not_false_eq_true, forall_const, implies_true, imp_self, eq_self, Nat.reduceAdd, Nat.reduceLeDiff, Nat.reduceEqDiff, Nat.zero_add, Nat.le_refl, Nat.succ_ne_self])
      | refine And.intro (fun h => ?_) (fun h => ?_)
      | refine And.intro (by first | omega | (simp only [maxLen, decide_eq_true_eq, decide_eq_false_iff_not] at *; omega)) ?_
      | refine And.intro rfl ?_
      | fail
  exact RetK.pure (by simp only [rs30, ressS, resS, and_self]) (by (simp only [rs30, retV, resV, Go.Bx.get, ↓reduceIte, eq_self, VLe_bool, Go.Bx.get, ↓reduceIte, eq_self]) <;> (first | exact (takesT_eq t x).symm))
theorem s19 (t : Tr) (amt : Int) : Ctr Try.prog 19 [vT t, .d (.int .i64 amt)] [] (.d (.int .i64 (partT t amt))) [] [] := by
  refine pure19 (by simp) rfl rfl ?_; intro c hP hfn; simp only [c19, vT, cT, vcC_seq, vcC_reg, seqK_nrm, nrmK_app, initE, vcR_nil, vcR_n, isCall, makes, newOf, opR, evS, evV, evX, Go.Bx.get, Go.Bx.own?, cellsV, isCell, cut, dropV, takeV, St.stp, Ef.stp, lgs, setE, applyU, setO, newN, Option.getD_some, List.all_cons, List.all_nil, List.length_cons, List.length_nil, List.not_mem_nil, Bool.and_self, Bool.false_eq_true, ↓reduceIte, true_and, and_self, not_false_eq_true, eq_self, Nat.reduceAdd, Nat.reduceEqDiff, Nat.zero_add, Nat.le_refl]
  repeat' first
      | (first
          | refine TR.p hP (by first | exact s27 t) (by repeat' first | exact trivial | (intro _; assumption) | apply And.intro) ?_
          | refine TR.gp hP rfl (fun _ => by first | exact s27 t) (fun _ => by repeat' first | exact trivial | (intro _; assumption) | apply And.intro) ?_
          | refine TR.pv hP rfl (by first | exact s27 t) trivial (by repeat' first | exact trivial | (intro _; assumption) | apply And.intro) ?_
         try simp only [vcC_seq, vcC_reg, vcC_skip, vcC_cond, vcC_ret, seqK_nrm, seqK_ret, nrmK_app, vcR_nil, vcR_n, vcR_s, isCall, makes, hasU, newOf, opR, binI, pickV, evS, evV, evX, gOf, Go.Bx.get, Go.Bx.own?, cut, nth, St.stp, Ef.stp, lgs, setE, applyU, newN, Option.getD_some, List.length_cons, List.length_nil, List.mem_cons, List.not_mem_nil, Bool.true_and, Bool.false_eq_true, Bool.cond_true_left, ↓reduceIte, true_and, and_true, and_self, or_false, not_false_eq_true, forall_const, implies_true, imp_self, eq_self, Nat.reduceAdd, Nat.reduceLeDiff, Nat.reduceEqDiff, Nat.zero_add, Nat.succ_ne_self, Nat.zero_ne_one])
      | refine And.intro (fun h => ?_) (fun h => ?_)
      | refine And.intro (by first | omega | (simp only [maxLen, decide_eq_true_eq, decide_eq_false_iff_not] at *; omega)) ?_
      | refine And.intro rfl ?_
      | fail
  all_goals exact RetK.pure (by simp only [rs19, ressS, resS, and_self]) (by (simp only [rs19, retV, resV, Go.Bx.get, ↓reduceIte, eq_self, VLe_int, Go.Bx.get, ↓reduceIte, eq_self]) <;> (first | simp_all [partT, highT]; done | (simp_all [partT, highT]; omega)))
theorem s21 (t : Tr) : Ctr Try.prog 21 [vT t] [] (.d (.int .i64 (roomT t))) [] [] := by
  refine pure21 (by simp) rfl rfl ?_; intro c hP hfn; simp only [c21, vT, cT, vcC_seq, vcC_reg, seqK_nrm, nrmK_app, initE, vcR_nil, vcR_n, isCall, makes, newOf, opR, evS, evV, evX, Go.Bx.get, Go.Bx.own?, cellsV, isCell, cut, dropV, takeV, St.stp, Ef.stp, lgs, setE, applyU, setO, newN, Option.getD_some, List.all_cons, List.all_nil, List.length_cons, List.length_nil, List.not_mem_nil, Bool.and_self, Bool.false_eq_true, ↓reduceIte, true_and, and_self, not_false_eq_true, eq_self, Nat.reduceAdd, Nat.zero_add, Nat.le_refl, Nat.succ_ne_self]
  repeat' first
      | (first
          | refine TR.p hP (by first | exact s27 t) (by repeat' first | exact trivial | (intro _; assumption) | apply And.intro) ?_
          | refine TR.gp hP rfl (fun _ => by first | exact s27 t) (fun _ => by repeat' first | exact trivial | (intro _; assumption) | apply And.intro) ?_
          | refine TR.pv hP rfl (by first | exact s27 t) trivial (by repeat' first | exact trivial | (intro _; assumption) | apply And.intro) ?_
         try simp only [vcC_seq, vcC_reg, vcC_skip, vcC_cond, vcC_ret, seqK_nrm, seqK_ret, nrmK_app, vcR_nil, vcR_n, vcR_s, isCall, makes, hasU, newOf, opR, binI, pickV, evS, evV, evX, gOf, Go.Bx.get, Go.Bx.own?, cut, nth, St.stp, Ef.stp, lgs, setE, applyU, newN, Option.getD_some, List.length_cons, List.length_nil, List.mem_cons, List.not_mem_nil, Bool.true_and, Bool.false_eq_true, Bool.cond_true_left, ↓reduceIte, true_and, and_true, and_self, or_false, not_false_eq_true, forall_const, implies_true, imp_self, eq_self, Nat.reduceAdd, Nat.reduceLeDiff, Nat.reduceEqDiff, Nat.zero_add, Nat.succ_ne_self])
      | refine And.intro (fun h => ?_) (fun h => ?_)
      | refine And.intro (by first | omega | (simp only [maxLen, decide_eq_true_eq, decide_eq_false_iff_not] at *; omega)) ?_
      | refine And.intro rfl ?_
      | fail
  · exact RetK.pure (by simp only [rs21, ressS, resS, and_self]) (by (simp only [rs21, retV, resV, Go.Bx.get, ↓reduceIte, eq_self, VLe_int, Go.Bx.get, ↓reduceIte, eq_self]) <;> (first | simp_all [roomT, highT]; done | (simp_all [roomT, highT]; omega)))
  · have hh : highT t = true := by simp_all [highT]
    have hb := high_bounds hh
    have h1 : 0 ≤ t.wid * t.aga := Int.mul_nonneg (by omega) (by omega)
    have h2 : t.wid * t.aga ≤ 1000000000000000 * 100 := Int.mul_le_mul (by omega) (by omega) (by omega) (by omega)
    exact RetK.pure (by simp only [rs21, ressS, resS, and_self]) (by (simp only [rs21, retV, resV, Go.Bx.get, ↓reduceIte, eq_self, VLe_int, Go.Bx.get, ↓reduceIte, eq_self]) <;> (first | rw [roomT, hh, wI (a := t.wid * t.aga) (by omega), wI (a := 1 + t.aga) (by omega), Int.mul_add, Int.mul_one]; simp))

theorem s17 (a b : List Int) (ha : a.length ≤ 9223372036854775807) : Ctr Try.prog 17 [.d (slK .i64 a), .d (slK .i64 b)] [] (.d (.bool (decide (a = b)))) [] [] := by
  refine pure17 (by simp) rfl rfl ?_; intro c hP hfn; simp only [c17, vcC_seq, vcC_reg, vcC_skip, vcC_cond, vcC_block, vcC_ret, seqK_nrm, seqK_ret, nrmK_app, initE, vcR_nil, vcR_n, isCall, makes, slK, newOf, opR, binI, evS, evV, evX, Go.Bx.get, St.stp, Ef.stp, lgs, setE, applyU, newN, Bool.false_eq_true, reduceCtorEq, ↓reduceIte, true_and, and_self, eq_self, Nat.reduceEqDiff, Nat.zero_add, Nat.succ_ne_self, Nat.zero_ne_one]
  refine ⟨fun h => ?_, fun h => ?_⟩
  · have hn : a ≠ b := by rintro rfl; simp at h
    exact RetK.pure (by simp only [rs17, ressS, resS, and_self]) (by (simp only [rs17, retV, resV, Go.Bx.get, ↓reduceIte, eq_self, VLe_bool, Go.Bx.get, ↓reduceIte, eq_self]) <;> (first | simp [hn]))
  have hab : a.length = b.length := by have h := eq_of_beq (show ((a.length : Int) == b.length) = true by simpa using h); omega
  refine vcC.loop (X := Nat) (fun k => ⟨[(0, .d (slK .i64 a)), (1, .d (slK .i64 b)), (5, .d (.int .i64 k))], [], []⟩)
    (fun k => k ≤ a.length ∧ (a = b ↔ a.drop k = b.drop k)) (fun k => a.length - k) 0 ⟨Nat.zero_le _, by simp⟩ (Wk.of [] hfn rfl (by (simp only [EnvLe, VLe_refl, slK, Go.Bx.get, reduceCtorEq, ↓reduceIte, and_self, eq_self, Nat.reduceEqDiff, Nat.zero_ne_one, Int.cast_ofNat_Int]) <;> (first | exact wS (by omega) | (rw [List.length_append]; exact wS (by omega)) | assumption)) (by simp only [OwnLe])) ?_
  rintro k ⟨hk, he⟩
  simp only [vcC_seq, vcC_reg, vcC_drw, vcC_skip, vcC_cond, vcC_block, vcC_exit, vcC_ret, seqK_nrm, seqK_exit, seqK_ret, blkK_nrm, blkK_exit, blkK_ret, lopK_exit, lopK_ret, nrmK_app, drwK_app, vcR_nil, vcR_n, isCall, makes, slK, newOf, opR, binI, evS, evV, evX, Go.Bx.get, cutD, nthD, St.stp, Ef.stp, Stp.lg, lgs, setE, applyU, newN, List.map_nil, List.append_nil, List.nil_append, List.cons_append, List.length_cons, List.length_nil, Bool.false_eq_true, reduceCtorEq, ↓reduceIte, true_and, and_true, and_self, eq_self, Nat.reduceEqDiff, Nat.zero_add, Nat.le_refl, Nat.succ_ne_self, Nat.zero_ne_one, Int.toNat_natCast]
  refine ⟨fun h1 => ?_, fun h1 => ?_⟩
  · have hlt : k < a.length := by have := of_decide_eq_true h1; omega
    obtain ⟨x, hd, hg, -, -⟩ := drop_at hlt
    obtain ⟨y, hd2, hg2, -, -⟩ := drop_at (hab ▸ hlt)
    simp only [hg, hg2]
    rw [hd, hd2] at he
    repeat' first
        | (first
            | refine TR.p hP (by first | fail) (by repeat' first | exact trivial | (intro _; assumption) | apply And.intro) ?_
            | refine TR.gp hP rfl (fun _ => by first | fail) (fun _ => by repeat' first | exact trivial | (intro _; assumption) | apply And.intro) ?_
            | refine TR.pv hP rfl (by first | fail) trivial (by repeat' first | exact trivial | (intro _; assumption) | apply And.intro) ?_
           try simp only [↓evSo_some, vcC_seq, vcC_reg, vcC_drw, vcC_skip, vcC_cond, vcC_block, vcC_exit, vcC_ret, vcC_bad, seqK_nrm, seqK_exit, seqK_ret, blkK_nrm, blkK_exit, blkK_ret, lopK_exit, lopK_ret, lopX_exit, lopX_ret, nrmK_app, drwK_app, initE, vcR_nil, vcR_n, vcR_s, isCall, makes, hasU, slK, newOf, opR, binI, pickV, evS, evV, evX, evSs, evVs, evParts, evPartsS, fillV, catV, gOf, Go.Bx.get, Go.Bx.own?, cellsV, isCell, cut, cutD, nth, nthD, dropV, takeV, dropD, takeDV, putV, toDs, St.stp, Ef.stp, Stp.lg, lgs, setE, applyU, setO, delO, newN, keysO, callU, Ef.bad, Option.getD_some, Option.getD_none, Option.map_some, Option.map_none, List.all_cons, List.all_nil, List.map_cons, List.map_nil, List.append_nil, List.nil_append, List.cons_append, List.length_cons, List.length_nil, List.mem_cons, List.not_mem_nil, Bool.and_true, Bool.true_and, Bool.and_self, Bool.not_true, Bool.not_false, Bool.or_self, Bool.or_false, Bool.false_or, Bool.false_eq_true, Bool.true_eq_false, Bool.cond_true_left, Bool.cond_false_right, cond_true, cond_false, reduceCtorEq, ↓reduceIte, if_true, if_false, true_and, and_true, and_self, false_and, and_false, or_false, false_or, not_false_eq_true, not_true_eq_false, forall_const, true_implies, false_implies, implies_true, imp_self, eq_self, ne_eq, Nat.reduceAdd, Nat.reduceSub, Nat.reduceMul, Nat.reduceLeDiff, Nat.reduceEqDiff, Nat.zero_add, Nat.add_zero, Nat.le_refl, Nat.succ_ne_self, Nat.one_ne_zero, Nat.zero_ne_one, Int.toNat_natCast, litRow, List.drop_succ_cons, List.drop_zero, List.take_succ_cons, List.take_zero, pubE, pubV, pubL, pubO, eqS, eqB, Nat.reduceLT, Nat.not_lt_zero, Nat.sub_zero, decide_true, decide_false, true_or, or_true, Int.le_refl, Int.cast_ofNat_Int, Int.reduceToNat, Int.reduceLT, Int.reduceLE, beq_self_eq_true, Nat.mul_one, Nat.one_mul, Nat.zero_mul])
        | refine And.intro (fun h => ?_) (fun h => ?_)
        | refine And.intro (by first | omega | (simp only [decide_eq_true_eq] at *; omega)) ?_
        | refine And.intro rfl ?_
        | fail
    · have hn : a ≠ b := fun e => by have := he.1 e; simp at this; simp [this.1] at h
      exact RetK.pure (by simp only [rs17, ressS, resS, and_self]) (by (simp only [rs17, retV, resV, Go.Bx.get, ↓reduceIte, eq_self, VLe_bool, Go.Bx.get, ↓reduceIte, eq_self]) <;> (first | simp [hn]))
    · refine lopK.on (k + 1) ⟨hlt, ?_⟩ (by omega) (Wk.of [] hfn rfl (by (simp only [EnvLe, VLe_refl, VLe_int, Go.Bx.get, reduceCtorEq, ↓reduceIte, true_and, and_true, eq_self, Nat.reduceEqDiff, Nat.zero_ne_one]) <;> (first | exact wS (by omega) | (rw [List.length_append]; exact wS (by omega)) | assumption)) (by simp only [OwnLe]))
      have hxy : x = y := by simpa using h
      rw [he, hxy]; simp
  · have hkl : k = a.length := by have := of_decide_eq_false h1; omega
    have : a = b := he.2 (by rw [hkl]; simp [hab])
    exact RetK.pure (by simp only [rs17, ressS, resS, and_self]) (by (simp only [rs17, retV, resV, Go.Bx.get, ↓reduceIte, eq_self, VLe_bool, Go.Bx.get, ↓reduceIte, eq_self]) <;> (first | simp [this]))
def sumR : Int → List Int → Int
  | n, [] => n
  | n, x :: r => sumR (IntKind.i64.wrap (n + x)) r
theorem s22 (a : List Int) (ha : a.length ≤ 9223372036854775807) : Ctr Try.prog 22 [.d (slK .i64 a)] [] (.d (.int .i64 (sumR 0 a))) [] [] := by
  refine pure22 (by simp) rfl rfl ?_; intro c hP hfn; simp only [c22, vcC_seq, vcC_reg, vcC_block, seqK_nrm, nrmK_app, initE, vcR_nil, vcR_n, isCall, makes, slK, newOf, opR, evS, evV, evX, St.stp, Ef.stp, lgs, setE, applyU, newN, Bool.false_eq_true, ↓reduceIte, true_and]
  refine vcC.loop (X := Nat × Int) (fun x => ⟨[(0, .d (slK .i64 a)), (3, .d (.int .i64 x.2)), (4, .d (.int .i64 x.1))], [], []⟩)
    (fun x => x.1 ≤ a.length ∧ sumR 0 a = sumR x.2 (a.drop x.1)) (fun x => a.length - x.1) (0, 0) ⟨Nat.zero_le _, rfl⟩ (Wk.of [] hfn rfl (by (simp only [EnvLe, VLe_refl, slK, Go.Bx.get, reduceCtorEq, ↓reduceIte, and_self, eq_self, Nat.succ_ne_self, Int.cast_ofNat_Int]) <;> (first | exact wS (by omega) | (rw [List.length_append]; exact wS (by omega)) | assumption)) (by simp only [OwnLe])) ?_
  rintro ⟨k, n⟩ ⟨hk, he⟩
  simp only at hk he
  simp only [vcC_seq, vcC_reg, vcC_skip, vcC_cond, vcC_block, vcC_exit, vcC_ret, seqK_nrm, seqK_exit, blkK_nrm, blkK_exit, lopK_exit, nrmK_app, vcR_nil, vcR_n, isCall, makes, slK, newOf, opR, binI, evS, evV, evX, Go.Bx.get, cutD, nthD, St.stp, Ef.stp, lgs, setE, applyU, newN, List.length_cons, List.length_nil, Bool.false_eq_true, reduceCtorEq, ↓reduceIte, true_and, and_true, and_self, eq_self, Nat.reduceEqDiff, Nat.zero_add, Nat.le_refl, Nat.succ_ne_self, Int.toNat_natCast]
  refine ⟨fun h1 => ?_, fun h1 => ?_⟩
  · have hlt : k < a.length := by have := of_decide_eq_true h1; omega
    obtain ⟨x, hd, hg, -, -⟩ := drop_at hlt
    simp only [hg]
    rw [hd, sumR] at he
    repeat' first
        | (first
            | refine TR.p hP (by first | fail) (by repeat' first | exact trivial | (intro _; assumption) | apply And.intro) ?_
            | refine TR.gp hP rfl (fun _ => by first | fail) (fun _ => by repeat' first | exact trivial | (intro _; assumption) | apply And.intro) ?_
            | refine TR.pv hP rfl (by first | fail) trivial (by repeat' first | exact trivial | (intro _; assumption) | apply And.intro) ?_
           try simp only [↓evSo_some, vcC_seq, vcC_reg, vcC_drw, vcC_skip, vcC_cond, vcC_block, vcC_exit, vcC_ret, vcC_bad, seqK_nrm, seqK_exit, seqK_ret, blkK_nrm, blkK_exit, blkK_ret, lopK_exit, lopK_ret, lopX_exit, lopX_ret, nrmK_app, drwK_app, initE, vcR_nil, vcR_n, vcR_s, isCall, makes, hasU, slK, newOf, opR, binI, pickV, evS, evV, evX, evSs, evVs, evParts, evPartsS, fillV, catV, gOf, Go.Bx.get, Go.Bx.own?, cellsV, isCell, cut, cutD, nth, nthD, dropV, takeV, dropD, takeDV, putV, toDs, St.stp, Ef.stp, Stp.lg, lgs, setE, applyU, setO, delO, newN, keysO, callU, Ef.bad, Option.getD_some, Option.getD_none, Option.map_some, Option.map_none, List.all_cons, List.all_nil, List.map_cons, List.map_nil, List.append_nil, List.nil_append, List.cons_append, List.length_cons, List.length_nil, List.mem_cons, List.not_mem_nil, Bool.and_true, Bool.true_and, Bool.and_self, Bool.not_true, Bool.not_false, Bool.or_self, Bool.or_false, Bool.false_or, Bool.false_eq_true, Bool.true_eq_false, Bool.cond_true_left, Bool.cond_false_right, cond_true, cond_false, reduceCtorEq, ↓reduceIte, if_true, if_false, true_and, and_true, and_self, false_and, and_false, or_false, false_or, not_false_eq_true, not_true_eq_false, forall_const, true_implies, false_implies, implies_true, imp_self, eq_self, ne_eq, Nat.reduceAdd, Nat.reduceSub, Nat.reduceMul, Nat.reduceLeDiff, Nat.reduceEqDiff, Nat.zero_add, Nat.add_zero, Nat.le_refl, Nat.succ_ne_self, Nat.one_ne_zero, Nat.zero_ne_one, Int.toNat_natCast, litRow, List.drop_succ_cons, List.drop_zero, List.take_succ_cons, List.take_zero, pubE, pubV, pubL, pubO, eqS, eqB, Nat.reduceLT, Nat.not_lt_zero, Nat.sub_zero, decide_true, decide_false, true_or, or_true, Int.le_refl, Int.cast_ofNat_Int, Int.reduceToNat, Int.reduceLT, Int.reduceLE, beq_self_eq_true, Nat.mul_one, Nat.one_mul, Nat.zero_mul])
        | refine And.intro (fun h => ?_) (fun h => ?_)
        | refine And.intro (by first | omega | (simp only [maxLen, decide_eq_true_eq, decide_eq_false_iff_not] at *; omega)) ?_
        | refine And.intro rfl ?_
        | fail
    exact lopK.on (k + 1, IntKind.i64.wrap (n + x)) ⟨hlt, he⟩ (by simp only; omega) (Wk.of [] hfn rfl (by (simp only [EnvLe, VLe_refl, VLe_int, Go.Bx.get, reduceCtorEq, ↓reduceIte, true_and, and_true, eq_self, Nat.reduceEqDiff, Nat.succ_ne_self]) <;> (first | exact wS (by omega) | (rw [List.length_append]; exact wS (by omega)) | assumption)) (by simp only [OwnLe]))
  · have hkl : k = a.length := by have := of_decide_eq_false h1; omega
    rw [hkl, List.drop_length, sumR] at he
    exact RetK.pure (by simp only [rs22, ressS, resS, and_self]) (by (simp only [rs22, retV, resV, Go.Bx.get, ↓reduceIte, eq_self, VLe_int, Go.Bx.get, ↓reduceIte, eq_self]) <;> (first | simp [he]))
theorem s24 (amt : Int) : Ctr Try.prog 24 [.d (.int .i64 amt)] [] (vX ⟨1, 0, 1, 0, amt⟩) [] [] := by
  refine pure24 (by simp) rfl rfl ?_; intro c hP hfn; simp only [c24, vcC_seq, vcC_reg, vcC_ret, seqK_nrm, nrmK_app, initE, vcR_nil, vcR_n, isCall, makes, newOf, opR, evS, evV, evX, evParts, evPartsS, fillV, Go.Bx.get, Go.Bx.own?, cellsV, isCell, putV, St.stp, Ef.stp, lgs, setE, applyU, setO, newN, Option.getD_some, List.all_cons, List.all_nil, List.length_cons, List.length_nil, List.mem_cons, List.not_mem_nil, Bool.and_self, Bool.false_eq_true, reduceCtorEq, ↓reduceIte, true_and, and_self, or_false, not_false_eq_true, eq_self, Nat.reduceAdd, Nat.reduceLeDiff, Nat.reduceEqDiff, Nat.zero_add, Nat.le_refl, Nat.succ_ne_self, decide_true]
  exact RetK.pure (by simp only [rs24, ressS, resS, Go.Bx.get, Go.Bx.own?, List.length_cons, List.length_nil, ↓reduceIte, and_self, eq_self, Nat.reduceAdd, Nat.reduceEqDiff, Nat.zero_add, Nat.le_refl, Nat.succ_ne_self]) (by simp only [rs24, retV, resV, Go.Bx.get, Go.Bx.own?, cut, dropV, takeV, ↓reduceIte, eq_self, Nat.reduceEqDiff, Nat.succ_ne_self, VLe_refl, Go.Bx.get, Go.Bx.own?, cut, dropV, takeV, ↓reduceIte, eq_self, Nat.reduceEqDiff, Nat.succ_ne_self, vX, cX'])

theorem takes_right {t : Tr} {x : Ls} (h : takesT t x = true) : rightT t = true ∧ lossX x = true := by
  simp only [takesT, Bool.and_eq_true] at h
  exact ⟨h.1.1.1, h.1.1.2⟩
theorem partT_eq (t : Tr) {amt : Int} (h0 : 0 ≤ amt) (h1 : amt ≤ 1000000000000000000) : partT t amt = if highT t = true ∧ t.att < amt then min t.wid (amt - t.att) else 0 := by
  unfold partT
  by_cases h : highT t = true
  · have hb := high_bounds h
    by_cases h2 : t.att < amt
    · rw [if_neg (by simp [h]; omega), if_pos ⟨h, h2⟩, wI (by omega)]
    · rw [if_pos (by simp [h]; omega), if_neg (fun e => h2 e.2)]
  · rw [if_pos (by simp [h]), if_neg (fun e => h e.1)]
theorem part_bounds (t : Tr) {amt : Int} (h0 : 0 ≤ amt) (h1 : amt ≤ 1000000000000000000) : 0 ≤ partT t amt ∧ partT t amt ≤ amt := by
  rw [partT_eq t h0 h1]
  split
  · rename_i h
    have := high_bounds h.1
    omega
  · omega
theorem roomT_eq (t : Tr) : roomT t = (if highT t = true then t.wid * (1 + t.aga) else 0) ∧ 0 ≤ roomT t ∧ roomT t ≤ 101000000000000000 := by
  unfold roomT
  by_cases h : highT t = true
  · have hb := high_bounds h
    have h1 : 0 ≤ t.wid * (1 + t.aga) := Int.mul_nonneg (by omega) (by omega)
    have h2 : t.wid * (1 + t.aga) ≤ 1000000000000000 * 101 := Int.mul_le_mul (by omega) (by omega) (by omega) (by omega)
    rw [if_neg (by simp [h]), if_pos h, wI (a := 1 + t.aga) (by omega), wI (by omega)]
    exact ⟨rfl, h1, by omega⟩
  · rw [if_pos (by simp [h]), if_neg h]; omega

/-- The document's way: what was borne so far. -/
def dealD (t : Tr) : Int → List Ls → List Int
  | _, [] => []
  | b, x :: r => (if takesT t x = true then min (partT t x.amt) (IntKind.i64.wrap (roomT t - b)) else 0) :: dealD t (IntKind.i64.wrap (b + (if takesT t x = true then min (partT t x.amt) (IntKind.i64.wrap (roomT t - b)) else 0))) r
theorem dealD_eq (t : Tr) : ∀ (l : List Ls) (b : Int), 0 ≤ b → b ≤ roomT t → dealD t b l = dealT t (roomT t - b) l
  | [], _, _, _ => rfl
  | x :: r, b, h0, h1 => by
    have hr := roomT_eq t
    rw [dealD, dealT, wI (a := roomT t - b) (by omega)]
    by_cases h : takesT t x = true
    · have hx := lossX_iff.1 (takes_right h).2
      have hp := part_bounds t (amt := x.amt) (by omega) (by omega)
      simp only [if_pos h]
      rw [wI (a := b + _) (by omega), wI (a := roomT t - b - _) (by omega), dealD_eq t r _ (by omega) (by omega)]
      congr 2
      omega
    · simp only [if_neg h, Int.add_zero]
      rw [wI (a := b) (by omega), dealD_eq t r b h0 h1]
theorem dealD_0 (t : Tr) (l : List Ls) : dealD t 0 l = dealT t (roomT t) l := by
  have := roomT_eq t
  rw [dealD_eq t l 0 (by omega) (by omega), Int.sub_zero]
theorem s16 (t : Tr) (l : List Ls) (hl : l.length ≤ 9223372036854775807) (hlx : ∀ x, x ∈ l → x.per ≤ 9223372036854775807) : Ctr Try.prog 16 [vT t, .d (slX l)] [] (.tup [.d (slK .i64 (bearsT t l).1), .d (.int .i64 (bearsT t l).2)]) [] [] := by
  refine pure16 (by simp) rfl rfl ?_; intro c hP hfn; simp only [c16, vT, cT, slX, vcC_seq, vcC_reg, seqK_nrm, nrmK_app, initE, vcR_nil, vcR_n, isCall, makes, slK, newOf, opR, evS, evV, evX, Go.Bx.get, Go.Bx.own?, cellsV, isCell, cut, dropV, takeV, St.stp, Ef.stp, lgs, setE, applyU, setO, newN, Option.getD_some, List.all_cons, List.all_nil, List.length_cons, List.length_nil, List.not_mem_nil, Bool.and_self, Bool.false_eq_true, ↓reduceIte, true_and, and_self, not_false_eq_true, eq_self, Nat.reduceAdd, Nat.reduceEqDiff, Nat.zero_add, Nat.le_refl]
  repeat' first
      | (first
          | refine TR.p hP (by first | exact s27 t) (by repeat' first | exact trivial | (intro _; assumption) | apply And.intro) ?_
          | refine TR.gp hP rfl (fun _ => by first | exact s27 t) (fun _ => by repeat' first | exact trivial | (intro _; assumption) | apply And.intro) ?_
          | refine TR.pv hP rfl (by first | exact s27 t) trivial (by repeat' first | exact trivial | (intro _; assumption) | apply And.intro) ?_
         try simp only [vcC_seq, vcC_reg, vcC_skip, vcC_cond, vcC_block, vcC_ret, seqK_nrm, seqK_ret, nrmK_app, vcR_nil, vcR_n, vcR_s, isCall, makes, hasU, newOf, opR, binI, pickV, evS, evV, evX, gOf, Go.Bx.get, Go.Bx.own?, cut, nth, St.stp, Ef.stp, lgs, setE, applyU, newN, Option.getD_some, List.length_cons, List.length_nil, List.mem_cons, List.not_mem_nil, Bool.true_and, Bool.false_eq_true, Bool.cond_true_left, ↓reduceIte, true_and, and_true, and_self, or_false, not_false_eq_true, forall_const, implies_true, imp_self, eq_self, Nat.reduceAdd, Nat.reduceLeDiff, Nat.reduceEqDiff, Nat.zero_add, Nat.succ_ne_self])
      | refine And.intro (fun h => ?_) (fun h => ?_)
      | refine And.intro (by first | omega | (simp only [maxLen, decide_eq_true_eq, decide_eq_false_iff_not] at *; omega)) ?_
      | refine And.intro rfl ?_
      | fail
  · have hb : bearsT t l = ([], 1) := by simp [bearsT, h]
    (refine RetK.pure (by simp only [rs16, ressS, resS, and_self]) (VLe.tups ?_); simp only [ressV, resV, Go.Bx.get, ↓reduceIte, eq_self, Nat.succ_ne_self])
    rw [hb]; exact ⟨nilK, VLe.refl _, trivial⟩
  have h0 := h
  clear h
  refine vcC.loop (X := Nat) (fun k => ⟨[(1, .d (slX l)), (2, .own 2 0), (7, .d (.int .i64 k))], [(2, .fix (cT t))], [2]⟩)
    (fun k => k ≤ l.length ∧ l.any (fun x => !(lossX x)) = (l.drop k).any (fun x => !(lossX x))) (fun k => l.length - k) 0 ⟨Nat.zero_le _, rfl⟩ (Wk.of [] hfn rfl (by (simp only [slX, EnvLe, VLe_refl, Go.Bx.get, ↓reduceIte, and_self, eq_self, Nat.reduceEqDiff, Nat.succ_ne_self, Nat.zero_ne_one, Int.cast_ofNat_Int]) <;> (first | exact wS (by omega) | (rw [List.length_append]; exact wS (by omega)) | assumption)) (by simp only [cT, OwnLe, OLe_refl, exists_eq_left', Option.some.injEq, Go.Bx.own?, ↓reduceIte, and_self, eq_self])) ?_
  rintro k ⟨hk, he⟩
  simp only [slX, cT, vcC_seq, vcC_reg, vcC_skip, vcC_cond, vcC_block, vcC_exit, vcC_ret, seqK_nrm, seqK_exit, seqK_ret, blkK_exit, lopK_exit, nrmK_app, vcR_nil, vcR_n, isCall, makes, newOf, opR, binI, evS, evV, evX, Go.Bx.get, cutD, dropD, takeDV, St.stp, Ef.stp, lgs, setE, applyU, newN, List.length_cons, List.length_nil, Bool.false_eq_true, ↓reduceIte, true_and, and_true, and_self, eq_self, Nat.reduceAdd, Nat.reduceEqDiff, Nat.zero_add, Nat.le_refl, Nat.succ_ne_self, Int.toNat_natCast]
  refine ⟨fun h1 => ?_, fun h1 => ?_⟩
  · have hlt : k < l.length := by have := of_decide_eq_true h1; omega
    obtain ⟨x, hd, hg, -, -⟩ := drop_at hlt
    simp only [hg]
    rw [hd, List.any_cons] at he
    repeat' first
        | (first
            | refine TR.p hP (by first | exact s29 x) (by repeat' first | exact trivial | (intro _; assumption) | apply And.intro) ?_
            | refine TR.gp hP rfl (fun _ => by first | exact s29 x) (fun _ => by repeat' first | exact trivial | (intro _; assumption) | apply And.intro) ?_
            | refine TR.pv hP rfl (by first | exact s29 x) trivial (by repeat' first | exact trivial | (intro _; assumption) | apply And.intro) ?_
           try simp only [vcC_seq, vcC_reg, vcC_skip, vcC_cond, vcC_ret, seqK_nrm, seqK_ret, blkK_nrm, blkK_ret, lopK_ret, nrmK_app, vcR_nil, vcR_n, isCall, makes, newOf, opR, binI, evS, evV, evX, Go.Bx.get, St.stp, Ef.stp, lgs, setE, applyU, newN, Bool.false_eq_true, ↓reduceIte, true_and, and_self, eq_self, Nat.reduceEqDiff, Nat.succ_ne_self])
        | refine And.intro (fun h => ?_) (fun h => ?_)
        | refine And.intro (by first | omega | (simp only [maxLen, decide_eq_true_eq, decide_eq_false_iff_not] at *; omega)) ?_
        | refine And.intro rfl ?_
        | fail
    · have hb : bearsT t l = ([], 1) := by simp only [bearsT]; rw [he, h]; simp
      (refine RetK.pure (by simp only [rs16, ressS, resS, and_self]) (VLe.tups ?_); simp only [ressV, resV, Go.Bx.get, ↓reduceIte, eq_self, Nat.succ_ne_self])
      rw [hb]; exact ⟨nilK, VLe.refl _, trivial⟩
    · refine lopK.on (k + 1) ⟨hlt, ?_⟩ (by omega) (Wk.of [] hfn rfl (by (simp only [EnvLe, VLe_refl, VLe_int, Go.Bx.get, ↓reduceIte, true_and, and_true, eq_self, Nat.reduceEqDiff]) <;> (first | exact wS (by omega) | (rw [List.length_append]; exact wS (by omega)) | assumption)) (by simp only [OwnLe, OLe_refl, exists_eq_left', Option.some.injEq, Go.Bx.own?, ↓reduceIte, and_self, eq_self]))
      rw [he, h]; simp
  have hkl : k = l.length := by have := of_decide_eq_false h1; omega
  rw [hkl, List.drop_length, List.any_nil] at he
  clear h1 hk
  repeat' first
      | (first
          | refine TR.p hP (by first | fail) (by repeat' first | exact trivial | (intro _; assumption) | apply And.intro) ?_
          | refine TR.gp hP rfl (fun _ => by first | fail) (fun _ => by repeat' first | exact trivial | (intro _; assumption) | apply And.intro) ?_
          | refine TR.pv hP rfl (by first | fail) trivial (by repeat' first | exact trivial | (intro _; assumption) | apply And.intro) ?_
         try simp only [↓evSo_some, vcC_seq, vcC_reg, vcC_drw, vcC_skip, vcC_cond, vcC_block, vcC_exit, vcC_ret, vcC_bad, seqK_nrm, seqK_exit, seqK_ret, blkK_nrm, blkK_exit, blkK_ret, lopK_exit, lopK_ret, lopX_exit, lopX_ret, nrmK_app, drwK_app, initE, vcR_nil, vcR_n, vcR_s, isCall, makes, hasU, slK, newOf, opR, binI, pickV, evS, evV, evX, evSs, evVs, evParts, evPartsS, fillV, catV, gOf, Go.Bx.get, Go.Bx.own?, cellsV, isCell, cut, cutD, nth, nthD, dropV, takeV, dropD, takeDV, putV, toDs, St.stp, Ef.stp, Stp.lg, lgs, setE, applyU, setO, delO, newN, keysO, callU, Ef.bad, Option.getD_some, Option.getD_none, Option.map_some, Option.map_none, List.all_cons, List.all_nil, List.map_cons, List.map_nil, List.append_nil, List.nil_append, List.cons_append, List.length_cons, List.length_nil, List.mem_cons, List.not_mem_nil, Bool.and_true, Bool.true_and, Bool.and_self, Bool.not_true, Bool.not_false, Bool.or_self, Bool.or_false, Bool.false_or, Bool.false_eq_true, Bool.true_eq_false, Bool.cond_true_left, Bool.cond_false_right, cond_true, cond_false, reduceCtorEq, ↓reduceIte, if_true, if_false, true_and, and_true, and_self, false_and, and_false, or_false, false_or, not_false_eq_true, not_true_eq_false, forall_const, true_implies, false_implies, implies_true, imp_self, eq_self, ne_eq, Nat.reduceAdd, Nat.reduceSub, Nat.reduceMul, Nat.reduceLeDiff, Nat.reduceEqDiff, Nat.zero_add, Nat.add_zero, Nat.le_refl, Nat.succ_ne_self, Nat.one_ne_zero, Nat.zero_ne_one, Int.toNat_natCast, litRow, List.drop_succ_cons, List.drop_zero, List.take_succ_cons, List.take_zero, pubE, pubV, pubL, pubO, eqS, eqB, Nat.reduceLT, Nat.not_lt_zero, Nat.sub_zero, decide_true, decide_false, true_or, or_true, Int.le_refl, Int.cast_ofNat_Int, Int.reduceToNat, Int.reduceLT, Int.reduceLE, beq_self_eq_true, Nat.mul_one, Nat.one_mul, Nat.zero_mul])
      | refine And.intro (fun h => ?_) (fun h => ?_)
      | refine And.intro (by first | omega | (simp only [maxLen, decide_eq_true_eq, decide_eq_false_iff_not] at *; omega)) ?_
      | refine And.intro rfl ?_
      | fail
  · have h2 : 2000 < l.length := by have := of_decide_eq_true h; omega
    have hb : bearsT t l = ([], 2) := by simp [bearsT, h0, h2, he]
    (refine RetK.pure (by simp only [rs16, ressS, resS, and_self]) (VLe.tups ?_); simp only [ressV, resV, Go.Bx.get, ↓reduceIte, eq_self, Nat.succ_ne_self])
    rw [hb]; exact ⟨nilK, VLe.refl _, trivial⟩
  have h2 : ¬ l.length > 2000 := by have := of_decide_eq_false h; omega
  have hb : bearsT t l = (dealD t 0 l, 0) := by rw [dealD_0]; simp only [bearsT, h0, he, if_neg h2]; rfl
  clear h he hkl
  refine vcC.loop (X := List Int × Int) (fun x => ⟨[(10, .osl 1000), (1, .d (slX l)), (2, .own 2 0), (9, .d (.int .i64 x.2)), (11, .d (.int .i64 x.1.length))],
        [(1000, .row 3 1 x.1.length (fun i => [.int .i64 (x.1.getD i 0)])), (2, .fix (cT t))], [1000, 2]⟩)
      (fun x => x.1.length ≤ l.length ∧ dealD t 0 l = x.1 ++ dealD t x.2 (l.drop x.1.length)) (fun x => l.length - x.1.length) ([], 0) ⟨Nat.zero_le _, rfl⟩ ((Wk.row0 (s := 10) (k := 1000) (e := 3) (sz := 1) (f' := fun _ => []) rfl rfl (by simp)).trans (Wk.of _ hfn rfl (by (simp only [slX, EnvLe, VLe_refl, Go.Bx.get, List.length_nil, ↓reduceIte, and_self, eq_self, Nat.reduceEqDiff, Nat.succ_ne_self, Int.cast_ofNat_Int]) <;> (first | exact wS (by omega) | (rw [List.length_append]; exact wS (by omega)) | assumption)) (by simp only [cT, OwnLe, OLe_refl, exists_eq_left', Option.some.injEq, Go.Bx.own?, setO, List.length_nil, ↓reduceIte, and_true, and_self, eq_self, Nat.reduceEqDiff]; exact OLe.row rfl (fun i hi => absurd hi (Nat.not_lt_zero i))))) ?_
  rintro ⟨dn, b⟩ ⟨hk, he⟩
  simp only at hk he
  simp only [slX, cT, vcC_seq, vcC_reg, vcC_drw, vcC_skip, vcC_cond, vcC_block, vcC_exit, vcC_ret, seqK_nrm, seqK_exit, blkK_exit, lopK_exit, nrmK_app, vcR_nil, vcR_n, isCall, makes, newOf, opR, binI, evS, evV, evX, Go.Bx.get, Go.Bx.own?, cut, cutD, dropV, takeV, dropD, takeDV, St.stp, Ef.stp, Stp.lg, lgs, setE, applyU, newN, List.map_nil, List.append_nil, List.nil_append, List.cons_append, List.length_cons, List.length_nil, Bool.false_eq_true, ↓reduceIte, true_and, and_true, and_self, eq_self, Nat.reduceAdd, Nat.reduceEqDiff, Nat.zero_add, Nat.le_refl, Nat.succ_ne_self, Int.toNat_natCast]
  refine ⟨fun h1 => ?_, fun h1 => ?_⟩
  · have hlt : dn.length < l.length := by have := of_decide_eq_true h1; omega
    obtain ⟨x, hd, hg, hm, -⟩ := drop_at hlt
    simp only [hg]
    rw [hd, dealD] at he
    repeat' first
        | (first
            | refine TR.p hP (by first | exact s30 t x (hlx x hm) | exact s19 t x.amt | exact s21 t) (by repeat' first | exact trivial | (intro _; assumption) | apply And.intro) ?_
            | refine TR.gp hP rfl (fun _ => by first | exact s30 t x (hlx x hm) | exact s19 t x.amt | exact s21 t) (fun _ => by repeat' first | exact trivial | (intro _; assumption) | apply And.intro) ?_
            | refine TR.pv hP rfl (by first | exact s30 t x (hlx x hm) | exact s19 t x.amt | exact s21 t) trivial (by repeat' first | exact trivial | (intro _; assumption) | apply And.intro) ?_
           try simp only [hg, vcC_seq, vcC_reg, vcC_drw, vcC_skip, vcC_cond, seqK_nrm, blkK_nrm, nrmK_app, drwK_app, vcR_nil, vcR_n, isCall, makes, newOf, opR, binI, evS, evV, evX, evSs, evVs, catV, Go.Bx.get, Go.Bx.own?, cellsV, cut, cutD, nthD, dropV, takeV, dropD, toDs, St.stp, Ef.stp, Stp.lg, lgs, setE, applyU, setO, delO, newN, Option.getD_some, Option.map_some, List.map_nil, List.append_nil, List.nil_append, List.cons_append, List.length_cons, List.length_nil, List.mem_cons, List.not_mem_nil, Bool.false_eq_true, ↓reduceIte, true_and, and_true, and_self, or_false, not_false_eq_true, forall_const, eq_self, Nat.reduceAdd, Nat.reduceLeDiff, Nat.reduceEqDiff, Nat.zero_add, Nat.le_refl, Nat.succ_ne_self, Int.toNat_natCast, litRow, Nat.reduceLT, Nat.mul_one])
        | refine And.intro (fun h => ?_) (fun h => ?_)
        | refine And.intro (by first | omega | (simp only [maxLen, decide_eq_true_eq] at *; omega)) ?_
        | refine And.intro rfl ?_
        | fail
    · rw [if_pos h] at he
      refine lopK.on (dn ++ [min (partT t x.amt) (IntKind.i64.wrap (roomT t - b))], IntKind.i64.wrap (b + min (partT t x.amt) (IntKind.i64.wrap (roomT t - b)))) ⟨by simp; omega, by rw [he]; simp⟩ (by simp; omega) (Wk.snoc (k := 70) _ hfn rfl rfl rfl rfl (OLe.app1 (cells := fun n => [.int .i64 n]) (fun i hi => by simp only [if_pos hi]) (by simp)) (by (simp only [EnvLe, VLe_refl, VLe_int, Go.Bx.get, ↓reduceIte, true_and, and_true, eq_self, Nat.reduceEqDiff, Nat.succ_ne_self]) <;> (first | exact wS (by omega) | (rw [List.length_append]; exact wS (by omega)) | assumption)) (by simp only [OwnLe, OLe_refl, exists_eq_left', Option.some.injEq, Go.Bx.own?, ↓reduceIte, and_self, eq_self]) (by simp) (by simp only [EnvLe, VLe_refl, Go.Bx.get, ↓reduceIte, and_self, eq_self, Nat.reduceEqDiff, Nat.succ_ne_self]) (by simp only [OwnLe, OLe_refl, exists_eq_left', Option.some.injEq, Go.Bx.own?, setO, delO, ↓reduceIte, and_self, eq_self, Nat.reduceEqDiff]))
    · rw [if_neg (by simp [h])] at he
      refine lopK.on (dn ++ [0], IntKind.i64.wrap (b + 0)) ⟨by simp; omega, by rw [he]; simp⟩ (by simp; omega) (Wk.snoc (k := 70) _ hfn rfl rfl rfl rfl (OLe.app1 (cells := fun n => [.int .i64 n]) (fun i hi => by simp only [if_pos hi]) (by simp)) (by (simp only [EnvLe, VLe_refl, VLe_int, Go.Bx.get, ↓reduceIte, true_and, and_true, eq_self, Nat.reduceEqDiff, Nat.succ_ne_self]) <;> (first | exact wS (by omega) | (rw [List.length_append]; exact wS (by omega)) | assumption)) (by simp only [OwnLe, OLe_refl, exists_eq_left', Option.some.injEq, Go.Bx.own?, ↓reduceIte, and_self, eq_self]) (by simp) (by simp only [EnvLe, VLe_refl, Go.Bx.get, ↓reduceIte, and_self, eq_self, Nat.reduceEqDiff, Nat.succ_ne_self]) (by simp only [OwnLe, OLe_refl, exists_eq_left', Option.some.injEq, Go.Bx.own?, setO, delO, ↓reduceIte, and_self, eq_self, Nat.reduceEqDiff]))
  · have hkl : dn.length = l.length := by have := of_decide_eq_false h1; omega
    rw [hkl, List.drop_length, dealD, List.append_nil] at he
    repeat' first
        | (first
            | refine TR.p hP (by first | fail) (by repeat' first | exact trivial | (intro _; assumption) | apply And.intro) ?_
            | refine TR.gp hP rfl (fun _ => by first | fail) (fun _ => by repeat' first | exact trivial | (intro _; assumption) | apply And.intro) ?_
            | refine TR.pv hP rfl (by first | fail) trivial (by repeat' first | exact trivial | (intro _; assumption) | apply And.intro) ?_
           try simp only [↓evSo_some, vcC_seq, vcC_reg, vcC_drw, vcC_skip, vcC_cond, vcC_block, vcC_exit, vcC_ret, vcC_bad, seqK_nrm, seqK_exit, seqK_ret, blkK_nrm, blkK_exit, blkK_ret, lopK_exit, lopK_ret, lopX_exit, lopX_ret, nrmK_app, drwK_app, initE, vcR_nil, vcR_n, vcR_s, isCall, makes, hasU, slK, newOf, opR, binI, pickV, evS, evV, evX, evSs, evVs, evParts, evPartsS, fillV, catV, gOf, Go.Bx.get, Go.Bx.own?, cellsV, isCell, cut, cutD, nth, nthD, dropV, takeV, dropD, takeDV, putV, toDs, St.stp, Ef.stp, Stp.lg, lgs, setE, applyU, setO, delO, newN, keysO, callU, Ef.bad, Option.getD_some, Option.getD_none, Option.map_some, Option.map_none, List.all_cons, List.all_nil, List.map_cons, List.map_nil, List.append_nil, List.nil_append, List.cons_append, List.length_cons, List.length_nil, List.mem_cons, List.not_mem_nil, Bool.and_true, Bool.true_and, Bool.and_self, Bool.not_true, Bool.not_false, Bool.or_self, Bool.or_false, Bool.false_or, Bool.false_eq_true, Bool.true_eq_false, Bool.cond_true_left, Bool.cond_false_right, cond_true, cond_false, reduceCtorEq, ↓reduceIte, if_true, if_false, true_and, and_true, and_self, false_and, and_false, or_false, false_or, not_false_eq_true, not_true_eq_false, forall_const, true_implies, false_implies, implies_true, imp_self, eq_self, ne_eq, Nat.reduceAdd, Nat.reduceSub, Nat.reduceMul, Nat.reduceLeDiff, Nat.reduceEqDiff, Nat.zero_add, Nat.add_zero, Nat.le_refl, Nat.succ_ne_self, Nat.one_ne_zero, Nat.zero_ne_one, Int.toNat_natCast, litRow, List.drop_succ_cons, List.drop_zero, List.take_succ_cons, List.take_zero, pubE, pubV, pubL, pubO, eqS, eqB, Nat.reduceLT, Nat.not_lt_zero, Nat.sub_zero, decide_true, decide_false, true_or, or_true, Int.le_refl, Int.cast_ofNat_Int, Int.reduceToNat, Int.reduceLT, Int.reduceLE, beq_self_eq_true, Nat.mul_one, Nat.one_mul, Nat.zero_mul])
        | refine And.intro (fun h => ?_) (fun h => ?_)
        | refine And.intro (by first | omega | (simp only [maxLen, decide_eq_true_eq, decide_eq_false_iff_not] at *; omega)) ?_
        | refine And.intro rfl ?_
        | fail
    refine RetK.mk _ (Wk.pub 1000 rfl) (by simp only [rs16, ressS, resS, delO, ↓reduceIte, and_self, eq_self, pubE, pubV, pubL, pubO]) ?_ trivial
    simp only [rs16, retV, ressV, resV, Go.Bx.get, ↓reduceIte, eq_self, Nat.succ_ne_self, pubE, pubV]
    rw [hb, he]
    exact VLe.tups ⟨VLe.sl rfl (fun _ => rfl) id fun i hi => rfl, VLe.refl _, trivial⟩
end Go.Proofs.Ytolhfgjekomaaaa
