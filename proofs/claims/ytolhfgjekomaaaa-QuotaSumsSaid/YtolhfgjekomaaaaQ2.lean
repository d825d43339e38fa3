import Derived.Test.YtolhfgjekomaaaaQ
namespace Go.Proofs.Ytolhfgjekomaaaa
open Go.Bx
set_option maxRecDepth 10000

theorem net_bad {ts : List Tr} {x : Ls} {t : Tr} (hm : t ∈ ts) (h : okQ t = false) : netR ts x = (0, 1) := by
  rw [netR, if_pos]
  rw [List.all_eq_false]; exact ⟨t, hm, by simp [h]⟩
set_option maxHeartbeats 2000000 in
theorem q33 (ts : List Tr) (x : Ls) (hl : ts.length ≤ 1000) : Ctr Try.prog 33 [.d (slT ts), vX x] [] (.tup [.d (.int .i64 (netR ts x).1), .d (.int .i64 (netR ts x).2)]) [] [] := by
  refine pure33 (by simp) rfl rfl ?_; intro c hP hfn; simp only [c33, slT, vX, cX', vcC_seq, vcC_reg, vcC_block, seqK_nrm, nrmK_app, initE, vcR_nil, vcR_n, isCall, makes, newOf, opR, evS, evV, evX, Go.Bx.get, cellsV, isCell, St.stp, Ef.stp, lgs, setE, applyU, setO, newN, Option.getD_some, List.all_cons, List.all_nil, List.not_mem_nil, Bool.and_self, Bool.false_eq_true, reduceCtorEq, ↓reduceIte, true_and, and_self, not_false_eq_true, eq_self, Nat.zero_add, Nat.zero_ne_one]
  refine vcC.loop (X := Nat × List Int × List Int) (fun y => ⟨[(6, .osl 1000), (7, .osl 1001), (3, .own 3 0), (12, .d (slT ts)), (13, .d (.int .i64 ts.length)), (14, .d (.int .i64 y.1))],
        [(1000, .row 3 1 y.2.1.length (fun i => [.int .i64 (y.2.1.getD i 0)])), (1001, .row 3 1 y.2.2.length (fun i => [.int .i64 (y.2.2.getD i 0)])), (3, .fix (cX' x))], [1000, 1001, 3]⟩)
      (fun y => y.1 ≤ ts.length ∧ (∀ t, t ∈ ts.take y.1 → okQ t = true) ∧ y.2.1 = netP x (ts.take y.1) ∧ y.2.2 = netB x (ts.take y.1)) (fun y => ts.length - y.1) (0, [], []) ⟨Nat.zero_le _, by simp, by simp [netP], by simp [netB]⟩
      ((Wk.row0 (s := 7) (k := 1001) (e := 3) (sz := 1) (f' := fun _ => []) rfl rfl (by simp)).trans ((Wk.row0 (s := 6) (k := 1000) (e := 3) (sz := 1) (f' := fun _ => []) rfl rfl (by simp)).trans (Wk.of _ hfn rfl (by (simp only [slT, EnvLe, VLe_refl, Go.Bx.get, ↓reduceIte, and_self, eq_self, Nat.reduceEqDiff, Nat.succ_ne_self, Int.cast_ofNat_Int]) <;> (first | exact wS (by omega) | (rw [List.length_append]; exact wS (by omega)) | assumption)) (by simp only [cX', OwnLe, OLe_refl, exists_eq_left', Option.some.injEq, Go.Bx.own?, setO, List.length_nil, ↓reduceIte, and_true, and_self, eq_self, Nat.reduceEqDiff, Nat.succ_ne_self]; exact OLe.row rfl (fun i hi => absurd hi (Nat.not_lt_zero i)))))) ?_
  rintro ⟨k, P, B⟩ ⟨hk, ho, hP', hB'⟩
  simp only at hk ho hP' hB'
  simp only [slT, cX', vcC_seq, vcC_reg, vcC_skip, vcC_cond, vcC_block, vcC_exit, seqK_nrm, seqK_exit, blkK_exit, lopK_exit, nrmK_app, vcR_nil, vcR_n, vcR_s, isCall, makes, hasU, newOf, opR, binI, evS, evV, evX, gOf, Go.Bx.get, Go.Bx.own?, cellsV, isCell, cut, cutD, nth, dropV, takeV, dropD, takeDV, putV, St.stp, Ef.stp, lgs, setE, applyU, setO, newN, Option.getD_some, List.all_cons, List.all_nil, List.length_cons, List.length_nil, List.mem_cons, List.not_mem_nil, Bool.and_self, Bool.false_eq_true, ↓reduceIte, true_and, and_true, and_self, or_false, not_false_eq_true, implies_true, eq_self, Nat.reduceAdd, Nat.reduceLeDiff, Nat.reduceEqDiff, Nat.zero_add, Nat.le_refl, Nat.succ_ne_self, Int.toNat_natCast]
  have hb := net_bounds x ho
  rw [← hP', ← hB'] at hb
  obtain ⟨b1, b2, b3, b4, b5, b6, b7, b8⟩ := hb
  rw [List.length_take, Nat.min_eq_left hk] at b1 b6 b8
  refine ⟨fun h1 => ?_, fun h1 => ?_⟩
  · have hlt : k < ts.length := by have := of_decide_eq_true h1; omega
    obtain ⟨t, hd, hg, hmx, hat⟩ := drop_at hlt
    have ht : ts.take (k + 1) = ts.take k ++ [t] := by rw [List.take_add_one, hat]; rfl
    have hs := net_snoc x (ts.take k) t
    rw [← ht, ← hP', ← hB'] at hs
    have hq := bearsQ_eq t x
    simp only [hg]
    repeat' first
        | (first
            | refine TR.p hP (by first | exact s26 t | exact q31 t x) (by repeat' first | exact trivial | (intro _; assumption) | apply And.intro) ?_
            | refine TR.gp hP rfl (fun _ => by first | exact s26 t | exact q31 t x) (fun _ => by repeat' first | exact trivial | (intro _; assumption) | apply And.intro) ?_
            | refine TR.pv hP rfl (by first | exact s26 t | exact q31 t x) trivial (by repeat' first | exact trivial | (intro _; assumption) | apply And.intro) ?_
           try simp only [vcC_seq, vcC_reg, vcC_skip, vcC_cond, vcC_ret, seqK_nrm, seqK_ret, blkK_nrm, blkK_ret, lopK_ret, nrmK_app, vcR_nil, vcR_n, vcR_s, isCall, makes, hasU, newOf, opR, binI, pickV, evS, evV, evX, evSs, evVs, catV, gOf, Go.Bx.get, Go.Bx.own?, cellsV, cut, nth, dropV, takeV, toDs, St.stp, Ef.stp, lgs, setE, applyU, setO, delO, newN, Option.getD_some, Option.map_some, List.append_nil, List.length_cons, List.length_nil, List.mem_cons, List.not_mem_nil, Bool.true_and, Bool.false_eq_true, Bool.cond_true_left, ↓reduceIte, true_and, and_true, and_self, or_false, not_false_eq_true, forall_const, implies_true, imp_self, eq_self, Nat.reduceAdd, Nat.reduceLeDiff, Nat.reduceEqDiff, Nat.zero_add, Nat.le_refl, Nat.succ_ne_self, litRow, Nat.reduceLT, Nat.mul_one])
        | refine And.intro (fun h => ?_) (fun h => ?_)
        | refine And.intro (by first | omega | (simp only [maxLen, decide_eq_true_eq] at *; omega)) ?_
        | refine And.intro rfl ?_
        | fail
    · have hn : okQ t = false := by
        cases h2 : okQ t with
        | false => rfl
        | true => have := okQ_iff.1 h2; simp [this] at h
      (refine RetK.pure (by simp only [rs33, ressS, resS, and_self]) (VLe.tups ?_); simp only [ressV, resV, Go.Bx.get, ↓reduceIte, eq_self, Nat.succ_ne_self])
      rw [net_bad hmx hn]; exact ⟨VLe.refl _, VLe.refl _, trivial⟩
    · rename_i h0
      have ok : okQ t = true := by rw [okQ_iff]; simpa using h0
      have hk1 := (okQ_iff.1 ok).1
      have htk : takesT t x = true := by
        by_cases h2 : takesT t x = true
        · exact h2
        · rw [hq, if_neg (fun h3 => h2 h3.2)] at h; cases h
      rw [if_pos ⟨hk1, htk⟩] at hq
      rw [if_pos htk, if_pos htk] at hs
      simp only [hq]
      refine lopK.on (k + 1, P ++ [t.bp], B ++ [mQ t x]) ⟨by simp only; omega, ?_, hs.1.symm, hs.2.symm⟩ (by simp only; omega) ?_
      · intro y hy
        simp only at hy
        rw [ht] at hy
        rcases List.mem_append.1 hy with hy | hy
        · exact ho y hy
        · simp at hy; rw [hy]; exact ok
      · refine Wk.trans (b := ⟨[(7, .osl 1001), (6, .osl 37), (3, .own 3 0), (12, .d (slT ts)), (13, .d (.int .i64 ts.length)), (14, .d (.int .i64 (k + 1 : Nat)))],
          [(1001, .row 3 1 (B ++ [mQ t x]).length (fun i => [.int .i64 ((B ++ [mQ t x]).getD i 0)])), (37, .row 3 1 (P ++ [t.bp]).length (fun i => [.int .i64 ((P ++ [t.bp]).getD i 0)])), (3, .fix (cX' x))], [1001, 37, 3]⟩)
          (Wk.snoc (k := 41) [] hfn rfl rfl rfl rfl (OLe.app1 (cells := fun n => [.int .i64 n]) (fun i hi => by simp only [if_pos hi]) (by simp)) (by (simp only [slT, EnvLe, VLe_refl, VLe_int, Go.Bx.get, ↓reduceIte, true_and, and_true, eq_self, Nat.reduceEqDiff, Nat.succ_ne_self]) <;> (first | exact wS (by omega) | (rw [List.length_append]; exact wS (by omega)) | assumption)) (by simp only [cX', OwnLe, OLe_refl, exists_eq_left', Option.some.injEq, Go.Bx.own?, ↓reduceIte, and_true, and_self, eq_self, Nat.reduceEqDiff]; exact OLe.app1 (cells := fun n => [.int .i64 n]) (fun i hi => by simp only [if_pos hi]) (by simp)) (by simp) (by simp only [EnvLe, VLe_refl, Go.Bx.get, ↓reduceIte, and_self, eq_self, Nat.reduceEqDiff, Nat.succ_ne_self]) (by simp only [OwnLe, OLe_refl, exists_eq_left', Option.some.injEq, Go.Bx.own?, setO, delO, ↓reduceIte, and_self, eq_self, Nat.reduceEqDiff]))
          (Wk.snoc (k := 37) [] hfn rfl rfl rfl rfl (OLe.refl _) (by (simp only [slT, EnvLe, VLe_refl, Go.Bx.get, ↓reduceIte, and_self, eq_self, Nat.reduceEqDiff]) <;> (first | exact wS (by omega) | (rw [List.length_append]; exact wS (by omega)) | assumption)) (by simp only [cX', OwnLe, OLe_refl, exists_eq_left', Option.some.injEq, Go.Bx.own?, ↓reduceIte, and_self, eq_self, Nat.reduceEqDiff]) (by simp) (by simp only [EnvLe, VLe_refl, Go.Bx.get, ↓reduceIte, and_self, eq_self, Nat.reduceEqDiff]) (by simp only [OwnLe, OLe_refl, exists_eq_left', Option.some.injEq, Go.Bx.own?, setO, delO, ↓reduceIte, and_self, eq_self, Nat.reduceEqDiff, Nat.succ_ne_self]))
    · rename_i h0
      have ok : okQ t = true := by rw [okQ_iff]; simpa using h0
      have hk1 := (okQ_iff.1 ok).1
      have htk : ¬ takesT t x = true := by
        intro h2; rw [hq, if_pos ⟨hk1, h2⟩] at h; cases h
      rw [if_neg htk, if_neg htk, List.append_nil, List.append_nil] at hs
      refine lopK.on (k + 1, P, B) ⟨by simp only; omega, ?_, hs.1.symm, hs.2.symm⟩ (by simp only; omega) (Wk.of [] hfn rfl (by (simp only [EnvLe, VLe_refl, VLe_int, Go.Bx.get, ↓reduceIte, true_and, and_true, eq_self, Nat.reduceEqDiff, Nat.succ_ne_self]) <;> (first | exact wS (by omega) | (rw [List.length_append]; exact wS (by omega)) | assumption)) (by simp only [OwnLe, OLe_refl, exists_eq_left', Option.some.injEq, Go.Bx.own?, ↓reduceIte, and_self, eq_self, Nat.reduceEqDiff]))
      intro y hy
      simp only at hy
      rw [ht] at hy
      rcases List.mem_append.1 hy with hy | hy
      · exact ho y hy
      · simp at hy; rw [hy]; exact ok
  · have hkl : k = ts.length := by have := of_decide_eq_false h1; omega
    rw [hkl, List.take_length] at ho hP' hB'
    have hall : ts.all okQ = true := List.all_eq_true.2 ho
    repeat' first
        | (first
            | refine TR.p hP (by first | exact s28 x) (by repeat' first | exact trivial | (intro _; assumption) | apply And.intro) ?_
            | refine TR.gp hP rfl (fun _ => by first | exact s28 x) (fun _ => by repeat' first | exact trivial | (intro _; assumption) | apply And.intro) ?_
            | refine TR.pv hP rfl (by first | exact s28 x) trivial (by repeat' first | exact trivial | (intro _; assumption) | apply And.intro) ?_
           try simp only [vcC_seq, vcC_reg, vcC_cond, vcC_ret, seqK_nrm, seqK_ret, blkK_ret, nrmK_app, vcR_nil, vcR_n, isCall, makes, newOf, opR, evS, evV, evX, Go.Bx.get, St.stp, Ef.stp, lgs, setE, applyU, newN, Bool.false_eq_true, ↓reduceIte, true_and, eq_self, Nat.reduceEqDiff])
        | refine And.intro (fun h => ?_) (fun h => ?_)
        | refine And.intro (by first | omega | (simp only [maxLen, decide_eq_true_eq, decide_eq_false_iff_not] at *; omega)) ?_
        | refine And.intro rfl ?_
        | fail
    · have e : netR ts x = (0, 1) := by rw [netR, if_neg (by rw [hall]; simp), if_pos (by simpa using h)]
      (refine RetK.pure (by simp only [rs33, ressS, resS, and_self]) (VLe.tups ?_); simp only [ressV, resV, Go.Bx.get, ↓reduceIte, eq_self, Nat.succ_ne_self])
      rw [e]; exact ⟨VLe.refl _, VLe.refl _, trivial⟩
    have hx : lossX x = true := by simpa using h
    have ha := (lossX_iff.1 hx).2.2.2.2
    clear h
    have c49 := q49 P (by omega)
    rw [sumW_eq P 0 (by omega) b3 (by omega), Int.zero_add] at c49
    have c49b := q49 B (by omega)
    rw [sumW_eq B 0 (by omega) b4 (by omega), Int.zero_add] at c49b
    have e : netR ts x = if 10000 < P.sum then (0, 13) else (max 0 (x.amt - B.sum), 0) := by
      rw [netR, if_neg (by rw [hall]; simp), if_neg (by rw [hx]; simp), ← hP', ← hB']
    refine TR.wk _ (Wk.pub 1000 rfl) ?_
    repeat' first
        | (first
            | refine TR.p hP (by first | exact c49) (by repeat' first | exact trivial | (intro _; assumption) | apply And.intro) ?_
            | refine TR.gp hP rfl (fun _ => by first | exact c49) (fun _ => by repeat' first | exact trivial | (intro _; assumption) | apply And.intro) ?_
            | refine TR.pv hP rfl (by first | exact c49) trivial (by repeat' first | exact trivial | (intro _; assumption) | apply And.intro) ?_
           try simp only [vcC_seq, vcC_reg, vcC_drw, vcC_skip, vcC_cond, vcC_ret, seqK_nrm, seqK_ret, blkK_nrm, blkK_ret, nrmK_app, vcR_nil, vcR_n, isCall, makes, newOf, opR, binI, evS, evV, evX, Go.Bx.get, Go.Bx.own?, cut, nth, St.stp, Ef.stp, Stp.lg, lgs, setE, applyU, delO, newN, List.map_nil, List.append_nil, List.nil_append, List.cons_append, List.length_cons, List.length_nil, Bool.false_eq_true, ↓reduceIte, true_and, and_self, eq_self, Nat.reduceAdd, Nat.reduceEqDiff, Nat.zero_add, Nat.le_refl, Nat.succ_ne_self, pubE, pubV, pubL, pubO])
        | refine And.intro (fun h => ?_) (fun h => ?_)
        | refine And.intro (by first | omega | (simp only [maxLen, decide_eq_true_eq, decide_eq_false_iff_not] at *; omega)) ?_
        | refine And.intro rfl ?_
        | fail
    · rw [if_pos (of_decide_eq_true h)] at e
      (refine RetK.pure (by simp only [rs33, ressS, resS, and_self]) (VLe.tups ?_); simp only [ressV, resV, Go.Bx.get, ↓reduceIte, eq_self, Nat.succ_ne_self])
      rw [e]; exact ⟨VLe.refl _, VLe.refl _, trivial⟩
    rw [if_neg (of_decide_eq_false h)] at e
    have ew : IntKind.i64.wrap (x.amt - B.sum) = x.amt - B.sum := wI (by omega)
    refine TR.pub hP 1001 rfl c49b (by repeat' first | exact trivial | (intro _; assumption) | apply And.intro) ?_
    simp only [vcC_ret, seqK_nrm, drwK_app, vcR_nil, vcR_n, isCall, makes, newOf, opR, binI, evS, evV, evX, Go.Bx.get, St.stp, Ef.stp, Stp.lg, lgs, setE, applyU, delO, newN, List.map_nil, List.append_nil, List.nil_append, List.cons_append, Bool.false_eq_true, ↓reduceIte, true_and, and_self, eq_self, Nat.reduceEqDiff, Nat.succ_ne_self]
    repeat' first
        | (first
            | refine TR.p hP (by first | fail) (by repeat' first | exact trivial | (intro _; assumption) | apply And.intro) ?_
            | refine TR.gp hP rfl (fun _ => by first | fail) (fun _ => by repeat' first | exact trivial | (intro _; assumption) | apply And.intro) ?_
            | refine TR.pv hP rfl (by first | fail) trivial (by repeat' first | exact trivial | (intro _; assumption) | apply And.intro) ?_
           try simp only [ew, ↓evSo_some, vcC_seq, vcC_reg, vcC_drw, vcC_skip, vcC_cond, vcC_block, vcC_exit, vcC_ret, vcC_bad, seqK_nrm, seqK_exit, seqK_ret, blkK_nrm, blkK_exit, blkK_ret, lopK_exit, lopK_ret, lopX_exit, lopX_ret, nrmK_app, drwK_app, initE, vcR_nil, vcR_n, vcR_s, isCall, makes, hasU, slK, newOf, opR, binI, pickV, evS, evV, evX, evSs, evVs, evParts, evPartsS, fillV, catV, gOf, Go.Bx.get, Go.Bx.own?, cellsV, isCell, cut, cutD, nth, nthD, dropV, takeV, dropD, takeDV, putV, toDs, St.stp, Ef.stp, Stp.lg, lgs, setE, applyU, setO, delO, newN, keysO, callU, Ef.bad, Option.getD_some, Option.getD_none, Option.map_some, Option.map_none, List.all_cons, List.all_nil, List.map_cons, List.map_nil, List.append_nil, List.nil_append, List.cons_append, List.length_cons, List.length_nil, List.mem_cons, List.not_mem_nil, Bool.and_true, Bool.true_and, Bool.and_self, Bool.not_true, Bool.not_false, Bool.or_self, Bool.or_false, Bool.false_or, Bool.false_eq_true, Bool.true_eq_false, Bool.cond_true_left, Bool.cond_false_right, cond_true, cond_false, reduceCtorEq, ↓reduceIte, if_true, if_false, true_and, and_true, and_self, false_and, and_false, or_false, false_or, not_false_eq_true, not_true_eq_false, forall_const, true_implies, false_implies, implies_true, imp_self, eq_self, ne_eq, Nat.reduceAdd, Nat.reduceSub, Nat.reduceMul, Nat.reduceLeDiff, Nat.reduceEqDiff, Nat.zero_add, Nat.add_zero, Nat.le_refl, Nat.succ_ne_self, Nat.one_ne_zero, Nat.zero_ne_one, Int.toNat_natCast, litRow, List.drop_succ_cons, List.drop_zero, List.take_succ_cons, List.take_zero, pubE, pubV, pubL, pubO, eqS, eqB, Nat.reduceLT, Nat.not_lt_zero, Nat.sub_zero, decide_true, decide_false, true_or, or_true, Int.le_refl, Int.cast_ofNat_Int, Int.reduceToNat, Int.reduceLT, Int.reduceLE, beq_self_eq_true, Nat.mul_one, Nat.one_mul, Nat.zero_mul])
        | refine And.intro (fun h => ?_) (fun h => ?_)
        | refine And.intro (by first | omega | (simp only [decide_eq_false_iff_not] at *; omega)) ?_
        | refine And.intro rfl ?_
        | fail
    (refine RetK.pure (by simp only [rs33, ressS, resS, and_self]) (VLe.tups ?_); simp only [ressV, resV, Go.Bx.get, ↓reduceIte, eq_self, Nat.succ_ne_self])
    rw [e, ew]; exact ⟨VLe.refl _, VLe.refl _, trivial⟩
theorem take_ok {ts : List Tr} {k : Nat} {t : Tr} (ht : ts.take (k + 1) = ts.take k ++ [t]) (ho : ∀ t, t ∈ ts.take k → okQ t = true) (ok : okQ t = true) : ∀ t, t ∈ ts.take (k + 1) → okQ t = true := by
  intro y hy
  rw [ht] at hy
  rcases List.mem_append.1 hy with hy | hy
  · exact ho y hy
  · simp at hy; rw [hy]; exact ok
set_option maxHeartbeats 2000000 in
theorem q34 (ts : List Tr) (x : Ls) (hl : ts.length ≤ 1000) (hp : x.per ≤ 9223372036854775807) : Ctr Try.prog 34 [.d (slT ts), vX x] [] (.tup [.d (.int .i64 (netR ts x).1), .d (.int .i64 (netR ts x).2)]) [] [] := by
  refine pure34 (by simp) rfl rfl ?_; intro c hP hfn; simp only [c34, slT, vX, cX', vcC_seq, vcC_reg, vcC_block, seqK_nrm, nrmK_app, initE, vcR_nil, vcR_n, isCall, makes, newOf, opR, evS, evV, evX, Go.Bx.get, Go.Bx.own?, cellsV, isCell, cut, nth, St.stp, Ef.stp, lgs, setE, applyU, setO, newN, Option.getD_some, List.all_cons, List.all_nil, List.length_cons, List.length_nil, List.not_mem_nil, Bool.and_self, Bool.false_eq_true, ↓reduceIte, true_and, and_self, not_false_eq_true, eq_self, Nat.reduceAdd, Nat.reduceEqDiff, Nat.zero_add, Nat.le_refl, Nat.succ_ne_self, Nat.zero_ne_one]
  refine vcC.loop (X := Nat × Int × Int) (fun y => ⟨[(0, .d (slT ts)), (3, .own 3 0), (6, .d (.int .i64 y.2.1)), (7, .d (.int .i64 y.2.2)), (8, .d (.int .i64 y.1))], [(3, .fix (cX' x))], [3]⟩)
      (fun y => y.1 ≤ ts.length ∧ (∀ t, t ∈ ts.take y.1 → okQ t = true) ∧ y.2.1 = (netP x (ts.take y.1)).sum ∧ y.2.2 = x.amt - (netB x (ts.take y.1)).sum) (fun y => ts.length - y.1) (0, 0, x.amt) ⟨Nat.zero_le _, by simp, by simp [netP], by simp [netB]⟩
      (Wk.of [] hfn rfl (by (simp only [slT, EnvLe, VLe_refl, Go.Bx.get, reduceCtorEq, ↓reduceIte, and_self, eq_self, Nat.reduceEqDiff, Nat.succ_ne_self, Int.cast_ofNat_Int]) <;> (first | exact wS (by omega) | (rw [List.length_append]; exact wS (by omega)) | assumption)) (by simp only [cX', OwnLe, OLe_refl, exists_eq_left', Option.some.injEq, Go.Bx.own?, ↓reduceIte, and_self, eq_self])) ?_
  rintro ⟨k, P, L⟩ ⟨hk, ho, hP', hB'⟩
  simp only at hk ho hP' hB'
  simp only [slT, cX', vcC_seq, vcC_reg, vcC_skip, vcC_cond, vcC_block, vcC_exit, seqK_nrm, seqK_exit, blkK_exit, lopK_exit, nrmK_app, vcR_nil, vcR_n, vcR_s, isCall, makes, hasU, newOf, opR, binI, evS, evV, evX, gOf, Go.Bx.get, Go.Bx.own?, cut, cutD, nthD, dropV, takeV, dropD, takeDV, St.stp, Ef.stp, lgs, setE, applyU, newN, Option.getD_some, List.length_cons, List.length_nil, List.mem_cons, List.not_mem_nil, Bool.false_eq_true, reduceCtorEq, ↓reduceIte, true_and, and_true, and_self, or_false, not_false_eq_true, forall_const, implies_true, imp_self, eq_self, Nat.reduceAdd, Nat.reduceLeDiff, Nat.reduceEqDiff, Nat.zero_add, Nat.le_refl, Nat.succ_ne_self, Int.toNat_natCast]
  have hb := net_bounds x ho
  obtain ⟨b1, b2, b3, b4, b5, b6, b7, b8⟩ := hb
  rw [← hP'] at b5 b6
  rw [List.length_take, Nat.min_eq_left hk] at b6 b8
  refine ⟨fun h1 => ?_, fun h1 => ?_⟩
  · have hlt : k < ts.length := by have := of_decide_eq_true h1; omega
    obtain ⟨t, hd, hg, hmx, hat⟩ := drop_at hlt
    have ht : ts.take (k + 1) = ts.take k ++ [t] := by rw [List.take_add_one, hat]; rfl
    have hs := net_snoc x (ts.take k) t
    rw [← ht] at hs
    have hq := bearsQ_eq t x
    simp only [hg]
    repeat' first
        | (first
            | refine TR.p hP (by first | exact s27 t | exact q32 t x hp) (by repeat' first | exact trivial | (intro _; assumption) | apply And.intro) ?_
            | refine TR.gp hP rfl (fun _ => by first | exact s27 t | exact q32 t x hp) (fun _ => by repeat' first | exact trivial | (intro _; assumption) | apply And.intro) ?_
            | refine TR.pv hP rfl (by first | exact s27 t | exact q32 t x hp) trivial (by repeat' first | exact trivial | (intro _; assumption) | apply And.intro) ?_
           try simp only [hg, vcC_seq, vcC_reg, vcC_drw, vcC_skip, vcC_cond, vcC_ret, seqK_nrm, seqK_ret, blkK_nrm, blkK_ret, lopK_ret, nrmK_app, drwK_app, vcR_nil, vcR_n, vcR_s, isCall, makes, hasU, newOf, opR, binI, pickV, evS, evV, evX, gOf, Go.Bx.get, Go.Bx.own?, cut, cutD, nth, nthD, dropV, takeV, dropD, takeDV, St.stp, Ef.stp, Stp.lg, lgs, setE, applyU, newN, Option.getD_some, List.map_nil, List.append_nil, List.nil_append, List.cons_append, List.length_cons, List.length_nil, List.mem_cons, List.not_mem_nil, Bool.true_and, Bool.false_eq_true, Bool.cond_true_left, reduceCtorEq, ↓reduceIte, true_and, and_true, and_self, or_false, not_false_eq_true, forall_const, implies_true, imp_self, eq_self, Nat.reduceAdd, Nat.reduceLeDiff, Nat.reduceEqDiff, Nat.zero_add, Nat.le_refl, Nat.succ_ne_self, Int.toNat_natCast, Nat.reduceLT])
        | refine And.intro (fun h => ?_) (fun h => ?_)
        | refine And.intro (by first | omega | (simp only [decide_eq_true_eq] at *; omega)) ?_
        | refine And.intro rfl ?_
        | fail
    · have hn : okQ t = false := by
        cases h2 : okQ t with
        | false => rfl
        | true => have := okQ_iff.1 h2; simp [this] at h
      (refine RetK.pure (by simp only [rs34, ressS, resS, and_self]) (VLe.tups ?_); simp only [ressV, resV, Go.Bx.get, ↓reduceIte, eq_self, Nat.succ_ne_self])
      rw [net_bad hmx hn]; exact ⟨VLe.refl _, VLe.refl _, trivial⟩
    · rename_i h0
      have ok : okQ t = true := by rw [okQ_iff]; simpa using h0
      have hk1 := (okQ_iff.1 ok).1
      have htk : takesT t x = true := by
        by_cases h2 : takesT t x = true
        · exact h2
        · rw [hq, if_neg (fun h3 => h2 h3.2)] at h; cases h
      have hm := bears_m hk1 htk
      rw [if_pos ⟨hk1, htk⟩] at hq
      rw [if_pos htk, if_pos htk] at hs
      have e1 : IntKind.i64.wrap (P + t.bp) = P + t.bp := wI (by omega)
      have e2 : IntKind.i64.wrap (L - mQ t x) = L - mQ t x := wI (by omega)
      simp only [hq, e1, e2]
      exact lopK.on (k + 1, P + t.bp, L - mQ t x) ⟨by simp only; omega, take_ok ht ho ok, by simp only; rw [hs.1, List.sum_append, hP']; simp, by simp only; rw [hs.2, List.sum_append, hB']; simp; omega⟩ (by simp only; omega) (Wk.of [] hfn rfl (by (simp only [EnvLe, VLe_refl, VLe_int, Go.Bx.get, reduceCtorEq, ↓reduceIte, true_and, and_true, eq_self, Nat.reduceEqDiff, Nat.succ_ne_self]) <;> (first | exact wS (by omega) | (rw [List.length_append]; exact wS (by omega)) | assumption)) (by simp only [OwnLe, OLe_refl, exists_eq_left', Option.some.injEq, Go.Bx.own?, ↓reduceIte, and_self, eq_self]))
    · rename_i h0
      have ok : okQ t = true := by rw [okQ_iff]; simpa using h0
      have hk1 := (okQ_iff.1 ok).1
      have htk : ¬ takesT t x = true := by
        intro h2; rw [hq, if_pos ⟨hk1, h2⟩] at h; cases h
      rw [if_neg htk, if_neg htk, List.append_nil, List.append_nil] at hs
      exact lopK.on (k + 1, P, L) ⟨by simp only; omega, take_ok ht ho ok, by simp only; rw [hs.1, hP'], by simp only; rw [hs.2, hB']⟩ (by simp only; omega) (Wk.of [] hfn rfl (by (simp only [EnvLe, VLe_refl, VLe_int, Go.Bx.get, reduceCtorEq, ↓reduceIte, true_and, and_true, eq_self, Nat.reduceEqDiff, Nat.succ_ne_self]) <;> (first | exact wS (by omega) | (rw [List.length_append]; exact wS (by omega)) | assumption)) (by simp only [OwnLe, OLe_refl, exists_eq_left', Option.some.injEq, Go.Bx.own?, ↓reduceIte, and_self, eq_self]))
  · have hkl : k = ts.length := by have := of_decide_eq_false h1; omega
    rw [hkl, List.take_length] at ho hP' hB'
    have hall : ts.all okQ = true := List.all_eq_true.2 ho
    have e : netR ts x = if lossX x = false then (0, 1) else if 10000 < P then (0, 13) else (max 0 L, 0) := by
      rw [netR, if_neg (by rw [hall]; simp), ← hP', ← hB']
    repeat' first
        | (first
            | refine TR.p hP (by first | exact s29 x) (by repeat' first | exact trivial | (intro _; assumption) | apply And.intro) ?_
            | refine TR.gp hP rfl (fun _ => by first | exact s29 x) (fun _ => by repeat' first | exact trivial | (intro _; assumption) | apply And.intro) ?_
            | refine TR.pv hP rfl (by first | exact s29 x) trivial (by repeat' first | exact trivial | (intro _; assumption) | apply And.intro) ?_
           try simp only [vcC_seq, vcC_reg, vcC_skip, vcC_cond, vcC_ret, seqK_nrm, seqK_ret, nrmK_app, vcR_nil, vcR_n, isCall, makes, newOf, opR, binI, evS, evV, evX, Go.Bx.get, St.stp, Ef.stp, lgs, setE, applyU, newN, Bool.false_eq_true, reduceCtorEq, ↓reduceIte, true_and, and_self, eq_self, Nat.reduceEqDiff])
        | refine And.intro (fun h => ?_) (fun h => ?_)
        | refine And.intro (by first | omega | (simp only [maxLen, decide_eq_true_eq, decide_eq_false_iff_not] at *; omega)) ?_
        | refine And.intro rfl ?_
        | fail
    · rw [if_pos (by simpa using h)] at e
      (refine RetK.pure (by simp only [rs34, ressS, resS, and_self]) (VLe.tups ?_); simp only [ressV, resV, Go.Bx.get, ↓reduceIte, eq_self, Nat.succ_ne_self])
      rw [e]; exact ⟨VLe.refl _, VLe.refl _, trivial⟩
    · rename_i h0
      rw [if_neg (by simp only [Bool.not_eq_false'] at h0; rw [h0]; simp), if_pos (of_decide_eq_true h)] at e
      (refine RetK.pure (by simp only [rs34, ressS, resS, and_self]) (VLe.tups ?_); simp only [ressV, resV, Go.Bx.get, ↓reduceIte, eq_self, Nat.succ_ne_self])
      rw [e]; exact ⟨VLe.refl _, VLe.refl _, trivial⟩
    · rename_i h00 h0
      rw [if_neg (by simp only [Bool.not_eq_false'] at h00; rw [h00]; simp), if_neg (of_decide_eq_false h0), show max 0 L = 0 by have := of_decide_eq_true h; omega] at e
      (refine RetK.pure (by simp only [rs34, ressS, resS, and_self]) (VLe.tups ?_); simp only [ressV, resV, Go.Bx.get, ↓reduceIte, eq_self, Nat.succ_ne_self])
      rw [e]; exact ⟨VLe.refl _, VLe.refl _, trivial⟩
    · rename_i h00 h0
      rw [if_neg (by simp only [Bool.not_eq_false'] at h00; rw [h00]; simp), if_neg (of_decide_eq_false h0), show max 0 L = L by have := of_decide_eq_false h; omega] at e
      (refine RetK.pure (by simp only [rs34, ressS, resS, and_self]) (VLe.tups ?_); simp only [ressV, resV, Go.Bx.get, ↓reduceIte, eq_self, Nat.succ_ne_self])
      rw [e]; exact ⟨VLe.refl _, VLe.refl _, trivial⟩

/-! Alive. -/
def ofT (bp per : Int) : Tr := ⟨1, 1, 1, 100, bp, 0, 0, 0, per⟩
theorem q40 (bp per : Int) : Ctr Try.prog 40 [.d (.int .i64 bp), .d (.int .i64 per)] [] (vT (ofT bp per)) [] [] := by
  refine pure40 (by simp) rfl rfl ?_; intro c hP hfn; simp only [c40, vcC_seq, vcC_reg, vcC_ret, seqK_nrm, nrmK_app, initE, vcR_nil, vcR_n, isCall, makes, newOf, opR, evS, evV, evX, evParts, evPartsS, fillV, Go.Bx.get, Go.Bx.own?, cellsV, isCell, putV, St.stp, Ef.stp, lgs, setE, applyU, setO, newN, Option.getD_some, List.all_cons, List.all_nil, List.length_cons, List.length_nil, List.mem_cons, List.not_mem_nil, Bool.and_self, Bool.false_eq_true, reduceCtorEq, ↓reduceIte, true_and, and_self, or_false, not_false_eq_true, eq_self, Nat.reduceAdd, Nat.reduceLeDiff, Nat.reduceEqDiff, Nat.zero_add, Nat.le_refl, Nat.succ_ne_self, Nat.zero_ne_one, decide_true]
  exact RetK.pure (by simp only [rs40, ressS, resS, Go.Bx.get, Go.Bx.own?, List.length_cons, List.length_nil, ↓reduceIte, and_self, eq_self, Nat.reduceAdd, Nat.reduceEqDiff, Nat.zero_add, Nat.le_refl, Nat.succ_ne_self]) (by simp only [rs40, retV, resV, Go.Bx.get, Go.Bx.own?, cut, dropV, takeV, ↓reduceIte, eq_self, Nat.reduceEqDiff, Nat.succ_ne_self, VLe_refl, Go.Bx.get, Go.Bx.own?, cut, dropV, takeV, ↓reduceIte, eq_self, Nat.reduceEqDiff, Nat.succ_ne_self, vT, cT, ofT])
theorem bears_at {t : Tr} {x : Ls} {r : Int × Bool} (e : bearsQ t x = r) : Ctr Try.prog 31 [vT t, vX x] [] (.tup [.d (.int .i64 r.1), .d (.bool r.2)]) [] [] := e ▸ q31 t x
theorem net_at {ts : List Tr} {x : Ls} {r : Int × Int} {full : Bool} {n : Nat} {F : Nat → List D} (hl : ts.length ≤ 1000) (hn : n = ts.length)
    (hF : ∀ i, i < n → F i = [.int .i64 (ts.getD i default).id, .int .i64 (ts.getD i default).kind, .int .i64 (ts.getD i default).sf, .int .i64 (ts.getD i default).st, .int .i64 (ts.getD i default).bp, .int .i64 (ts.getD i default).att, .int .i64 (ts.getD i default).wid, .int .i64 (ts.getD i default).aga, .int .i64 (ts.getD i default).per])
    (e : netR ts x = r) : Ctr Try.prog 33 [.d (.sl full 9 n F), vX x] [] (.tup [.d (.int .i64 r.1), .d (.int .i64 r.2)]) [] [] :=
  e ▸ (q33 ts x hl).arg ⟨VLe.sl hn (fun _ => rfl) (by simp) hF, VLe.refl _, trivial⟩
def litT (ts : List Tr) : List D := ts.flatMap fun t => [.int .i64 t.id, .int .i64 t.kind, .int .i64 t.sf, .int .i64 t.st, .int .i64 t.bp, .int .i64 t.att, .int .i64 t.wid, .int .i64 t.aga, .int .i64 t.per]
theorem right_at {t : Tr} {r : Bool} (e : rightT t = r) : Ctr Try.prog 26 [vT t] [] (.d (.bool r)) [] [] := e ▸ s26 t
theorem loss_at {x : Ls} {r : Bool} (e : lossX x = r) : Ctr Try.prog 28 [vX x] [] (.d (.bool r)) [] [] := e ▸ s28 x
theorem takes_at {t : Tr} {x : Ls} {r : Bool} (e : takesT t x = r) : Ctr Try.prog 23 [vT t, vX x] [] (.d (.bool r)) [] [] := e ▸ s23 t x
set_option maxHeartbeats 2000000 in
theorem q25 : Ctr Try.prog 25 [] [] (.d (.bool true)) [] [] := by
  have c1 := bears_at (t := ofT 2500 4) (x := ⟨1, 0, 5, 2, 1001⟩) (r := (250, true)) (by decide +kernel)
  have c2 := bears_at (t := ofT 2500 3) (x := ⟨1, 0, 5, 2, 1001⟩) (r := (0, false)) (by decide +kernel)
  have c3 := net_at (ts := [ofT 2500 4, ofT 5000 255, ofT 9000 3]) (x := ⟨1, 0, 5, 2, 1001⟩) (r := (251, 0)) (full := true) (n := 3) (F := litRow 9 (litT [ofT 2500 4, ofT 5000 255, ofT 9000 3])) (by decide) rfl (by intro i hi; rcases i with _ | _ | _ | i <;> first | rfl | omega) (by decide +kernel)
  have c4 := net_at (ts := [ofT 5001 4, ofT 5000 255]) (x := ⟨1, 0, 5, 2, 1001⟩) (r := (0, 13)) (full := true) (n := 2) (F := litRow 9 (litT [ofT 5001 4, ofT 5000 255])) (by decide) rfl (by intro i hi; rcases i with _ | _ | i <;> first | rfl | omega) (by decide +kernel)
  have c5 : Ctr Try.prog 33 [.d (.sl true 0 0 fun _ => []), vX ⟨0, 0, 0, 0, 0⟩] [] (.tup [.d (.int .i64 0), .d (.int .i64 1)]) [] [] := by
    have h := q33 [] ⟨0, 0, 0, 0, 0⟩ (by decide)
    rw [show netR [] ⟨0, 0, 0, 0, 0⟩ = (0, 1) by decide +kernel] at h
    exact h.arg ⟨VLe.nil rfl (by simp), VLe.refl _, trivial⟩
  have c6 := right_at (t := ofT 1 1) (r := true) (by decide +kernel)
  have c7 := right_at (t := ofT 0 1) (r := false) (by decide +kernel)
  have c8 := loss_at (x := ⟨1, 0, 5, 2, 1001⟩) (r := true) (by decide +kernel)
  have c9 := takes_at (t := ofT 1 4) (x := ⟨1, 0, 5, 2, 1001⟩) (r := true) (by decide +kernel)
  have c10 := takes_at (t := ofT 1 4) (x := ⟨1, 0, 100, 2, 0⟩) (r := false) (by decide +kernel)
  simp only [vT, vX, cT, cX', ofT, litT, List.flatMap_cons, List.flatMap_nil, List.cons_append, List.nil_append, List.append_nil] at c1 c2 c3 c4 c5 c6 c7 c8 c9 c10
  have c0 : ∀ bp per : Int, Ctr Try.prog 40 [.d (.int .i64 bp), .d (.int .i64 per)] [] (.ag [.d (.int .i64 1), .d (.int .i64 1), .d (.int .i64 1), .d (.int .i64 100), .d (.int .i64 bp), .d (.int .i64 0), .d (.int .i64 0), .d (.int .i64 0), .d (.int .i64 per)]) [] [] := q40
  refine pure25 (by simp) rfl rfl ?_; intro c hP hfn; simp only [c25, vcC_seq, vcC_reg, vcC_drw, seqK_nrm, nrmK_app, initE, vcR_nil, vcR_n, isCall, makes, newOf, opR, evS, evV, evX, evParts, evPartsS, fillV, Go.Bx.get, Go.Bx.own?, cellsV, isCell, putV, St.stp, Ef.stp, lgs, setE, applyU, setO, newN, Option.getD_some, List.all_cons, List.all_nil, List.length_cons, List.length_nil, List.mem_cons, List.not_mem_nil, Bool.and_self, Bool.false_eq_true, ↓reduceIte, true_and, and_self, or_false, not_false_eq_true, eq_self, Nat.reduceAdd, Nat.reduceLeDiff, Nat.reduceEqDiff, Nat.zero_add, Nat.le_refl, decide_true]
  repeat' first
      | (first
          | refine TR.p hP (by first | exact c0 _ _ | exact c1 | exact c2 | exact c3 | exact c4 | exact c5 | exact c6 | exact c7 | exact c8 | exact c9 | exact c10) (by repeat' first | exact trivial | (intro _; assumption) | apply And.intro) ?_
          | refine TR.gp hP rfl (fun _ => by first | exact c0 _ _ | exact c1 | exact c2 | exact c3 | exact c4 | exact c5 | exact c6 | exact c7 | exact c8 | exact c9 | exact c10) (fun _ => by repeat' first | exact trivial | (intro _; assumption) | apply And.intro) ?_
          | refine TR.pv hP rfl (by first | exact c0 _ _ | exact c1 | exact c2 | exact c3 | exact c4 | exact c5 | exact c6 | exact c7 | exact c8 | exact c9 | exact c10) trivial (by repeat' first | exact trivial | (intro _; assumption) | apply And.intro) ?_
         try simp only [vcC_seq, vcC_reg, vcC_drw, vcC_ret, seqK_nrm, nrmK_app, drwK_app, vcR_nil, vcR_n, vcR_s, isCall, makes, hasU, newOf, opR, binI, pickV, evS, evV, evX, evSs, evVs, evParts, evPartsS, fillV, catV, gOf, Go.Bx.get, Go.Bx.own?, cellsV, isCell, cut, nth, dropV, takeV, putV, toDs, St.stp, Ef.stp, Stp.lg, lgs, setE, applyU, newN, Option.getD_some, Option.map_some, List.all_cons, List.all_nil, List.map_nil, List.append_nil, List.nil_append, List.cons_append, List.length_cons, List.length_nil, List.mem_cons, List.not_mem_nil, Bool.and_self, Bool.not_false, Bool.false_eq_true, cond_true, ↓reduceIte, true_and, and_self, or_false, not_false_eq_true, forall_const, implies_true, eq_self, Nat.reduceAdd, Nat.reduceLeDiff, Nat.reduceEqDiff, Nat.zero_add, Nat.le_refl, Nat.succ_ne_self, Nat.reduceLT, decide_true, beq_self_eq_true])
      | refine And.intro (fun h => ?_) (fun h => ?_)
      | refine And.intro (by first | omega | (simp only [maxLen, decide_eq_true_eq, decide_eq_false_iff_not] at *; omega)) ?_
      | refine And.intro rfl ?_
      | fail
  all_goals exact RetK.pure (by simp only [rs25, ressS, resS, and_self]) (by (simp only [rs25, retV, resV, Go.Bx.get, ↓reduceIte, eq_self, VLe_refl, Go.Bx.get, ↓reduceIte, eq_self]) <;> (first | simp))
end Go.Proofs.Ytolhfgjekomaaaa
