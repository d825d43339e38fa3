import Derived.Test.YtolhfgjekomaaaaA
namespace Go.Proofs.Ytolhfgjekomaaaa
open Go.Bx
set_option maxRecDepth 10000

/-! The chapter's laws, without the program. -/
/-- What parts bear, as long as there is room. -/
def deal : Int → List Int → List Int
  | _, [] => []
  | left, p :: r => min p left :: deal (left - min p left) r
def partX (t : Tr) (x : Ls) : Int := if takesT t x = true then partT t x.amt else 0
theorem partX_bounds (t : Tr) (x : Ls) : 0 ≤ partX t x ∧ partX t x ≤ 1000000000000000 := by
  unfold partX
  by_cases h : takesT t x = true
  · rw [if_pos h]
    have hx := lossX_iff.1 (takes_right h).2
    have := part_bounds t (amt := x.amt) (by omega) (by omega)
    omega
  · rw [if_neg h]; omega
theorem dealT_eq (t : Tr) : ∀ (l : List Ls) (left : Int), 0 ≤ left → left ≤ 101000000000000000 → dealT t left l = deal left (l.map (partX t))
  | [], _, _, _ => rfl
  | x :: r, left, h0, h1 => by
    have hp := partX_bounds t x
    rw [dealT, List.map_cons, deal]
    by_cases h : takesT t x = true
    · have e : partX t x = partT t x.amt := if_pos h
      rw [if_pos h, e, wI (by omega), dealT_eq t r _ (by omega) (by omega)]
    · have e : partX t x = 0 := if_neg h
      rw [if_neg h, e, Int.min_eq_left h0, Int.sub_zero, dealT_eq t r left h0 h1]
theorem deal_len : ∀ (ps : List Int) (left : Int), (deal left ps).length = ps.length
  | [], _ => rfl
  | p :: r, left => by simp [deal, deal_len r]
theorem deal_sum : ∀ (ps : List Int) (left : Int), 0 ≤ left → (∀ p, p ∈ ps → 0 ≤ p) → (deal left ps).sum = min ps.sum left ∧ 0 ≤ ps.sum
  | [], left, h0, _ => by simp [deal]; omega
  | p :: r, left, h0, hp => by
    have := hp p (by simp)
    have ih := deal_sum r (left - min p left) (by omega) (fun q hq => hp q (by simp [hq]))
    simp only [deal, List.sum_cons]
    omega
theorem deal_at : ∀ (ps : List Int) (left : Int) (k : Nat), 0 ≤ left → (∀ p, p ∈ ps → 0 ≤ p) → 0 ≤ (deal left ps).getD k 0 ∧ (deal left ps).getD k 0 ≤ ps.getD k 0
  | [], left, k, h0, _ => by simp [deal]
  | p :: r, left, 0, h0, hp => by
    have := hp p (by simp)
    simp only [deal, List.getD_cons_zero]; omega
  | p :: r, left, k + 1, h0, hp => by
    have := hp p (by simp)
    simp only [deal, List.getD_cons_succ]
    exact deal_at r _ k (by omega) (fun q hq => hp q (by simp [hq]))
theorem deal_app : ∀ (ps : List Int) (left q : Int), 0 ≤ left → (∀ p, p ∈ ps → 0 ≤ p) → deal left (ps ++ [q]) = deal left ps ++ [min q (left - (deal left ps).sum)]
  | [], left, q, h0, _ => by simp [deal]
  | p :: r, left, q, h0, hp => by
    have := hp p (by simp)
    have ih := deal_app r (left - min p left) q (by omega) (fun q hq => hp q (by simp [hq]))
    simp only [List.cons_append, deal, ih, List.sum_cons]
    congr 3
    omega
theorem W_idem (a b : Int) : IntKind.i64.wrap (IntKind.i64.wrap a + b) = IntKind.i64.wrap (a + b) := by
  simp only [IntKind.wrap_i64]; omega
theorem sumR_eq : ∀ (l : List Int) (n : Int), IntKind.i64.wrap n = n → sumR n l = IntKind.i64.wrap (n + l.sum)
  | [], n, h => by simp [sumR, h]
  | x :: r, n, h => by
    rw [sumR, sumR_eq r _ (by have := W_idem (n + x) 0; simpa using this), W_idem, List.sum_cons, Int.add_assoc]
theorem sumR_in (l : List Int) (h0 : -9223372036854775808 ≤ l.sum) (h1 : l.sum ≤ 9223372036854775807) : sumR 0 l = l.sum := by
  rw [sumR_eq l 0 (wI (by omega)), Int.zero_add, wI ⟨h0, h1⟩]
theorem bearsT_ok {t : Tr} {l : List Ls} (h : (bearsT t l).2 = 0) : (bearsT t l).1 = deal (roomT t) (l.map (partX t)) ∧ rightT t = true ∧ t.kind = 2 ∧ (∀ x, x ∈ l → lossX x = true) ∧ l.length ≤ 2000 := by
  have hr := roomT_eq t
  unfold bearsT at h ⊢
  split at h
  · simp at h
  · rename_i h1
    split at h
    · simp at h
    · rename_i h2
      rw [if_neg h1, if_neg h2]
      simp only [Bool.or_eq_true, Bool.not_eq_true', bne_iff_ne, ne_eq, not_or, Decidable.not_not, Bool.not_eq_false, List.any_eq_true, not_exists, not_and] at h1
      exact ⟨dealT_eq t l _ hr.2.1 hr.2.2, h1.1.1, h1.1.2, h1.2, by omega⟩
theorem bearsT_bad {t : Tr} {l : List Ls} (h : (bearsT t l).2 ≠ 0) : (bearsT t l).1 = [] := by
  unfold bearsT at h ⊢
  split <;> try rfl
  rename_i h1
  rw [if_neg h1] at h
  split <;> try rfl
  rename_i h2
  rw [if_neg h2] at h
  simp at h
theorem bearsT_len (t : Tr) (l : List Ls) : (bearsT t l).1.length ≤ l.length := by
  unfold bearsT
  split
  · simp
  · split
    · simp
    · simp [dealT_len]
theorem partsX_nonneg (t : Tr) (l : List Ls) : ∀ p, p ∈ l.map (partX t) → 0 ≤ p := by
  intro p hp
  obtain ⟨x, _, rfl⟩ := List.mem_map.1 hp
  exact (partX_bounds t x).1

/-! The laws, as they run. -/
theorem s17' {a b : List Int} {full : Bool} {n : Nat} {ds : List D} (h : LitI .i64 ds b) (hn : n = b.length) (ha : a.length ≤ 9223372036854775807) : Ctr Try.prog 17 [.d (slK .i64 a), .d (.sl full 1 n (litRow 1 ds))] [] (.d (.bool (decide (a = b)))) [] [] :=
  (s17 a b ha).arg ⟨VLe.refl _, h.vle hn, trivial⟩
def tr0 : Tr := ⟨1, 2, 1, 2, 0, 100, 50, 1, 1⟩
def ls0 : List Ls := [⟨1, 0, 1, 0, 120⟩, ⟨1, 0, 1, 0, 500⟩, ⟨1, 0, 1, 0, 180⟩, ⟨1, 0, 1, 0, 200⟩]
theorem s15a : Ctr Try.prog 15 [vT tr0, .d (.sl true 5 4 (litRow 5 [.int .i64 1, .int .i64 0, .int .i64 1, .int .i64 0, .int .i64 120, .int .i64 1, .int .i64 0, .int .i64 1, .int .i64 0, .int .i64 500, .int .i64 1, .int .i64 0, .int .i64 1, .int .i64 0, .int .i64 180, .int .i64 1, .int .i64 0, .int .i64 1, .int .i64 0, .int .i64 200]))] [] (.tup [.d (slK .i64 (bearsT tr0 ls0).1), .d (.int .i64 (bearsT tr0 ls0).2)]) [] [] :=
  (s15 tr0 ls0 (by decide)).arg ⟨VLe.refl _, VLe.sl rfl (fun _ => rfl) (by simp) (fun i hi => by
    have : i = 0 ∨ i = 1 ∨ i = 2 ∨ i = 3 := by omega
    rcases this with rfl | rfl | rfl | rfl <;> rfl), trivial⟩
theorem s14 : Ctr Try.prog 14 [] [] (.d (.bool true)) [] [] := by
  refine pure14 (by simp) rfl rfl ?_
  intro c hP hfn
  simp only [c14, vcC_seq, vcC_reg, vcC_drw, seqK_nrm, nrmK_app, initE, vcR_nil, vcR_n, isCall, makes, newOf, opR, evS, evV, evX, evParts, evPartsS, fillV, Go.Bx.get, Go.Bx.own?, cellsV, isCell, cut, dropV, takeV, putV, St.stp, Ef.stp, Stp.lg, lgs, setE, applyU, setO, newN, Option.getD_some, List.all_cons, List.all_nil, List.map_nil, List.append_nil, List.nil_append, List.length_cons, List.length_nil, List.mem_cons, List.not_mem_nil, Bool.and_self, Bool.false_eq_true, ↓reduceIte, true_and, and_self, or_false, not_false_eq_true, eq_self, Nat.reduceAdd, Nat.reduceLeDiff, Nat.reduceEqDiff, Nat.zero_add, Nat.le_refl, decide_true]
  repeat' first
      | (first
          | refine TR.p hP (by first | exact s24 .. | exact s15a | exact s17' (by repeat constructor) (by rfl) (by decide +kernel) | exact s18 tr0 _ | exact s20 tr0) (by repeat' first | exact trivial | (intro _; assumption) | apply And.intro) ?_
          | refine TR.gp hP rfl (fun _ => by first | exact s24 .. | exact s15a | exact s17' (by repeat constructor) (by rfl) (by decide +kernel) | exact s18 tr0 _ | exact s20 tr0) (fun _ => by repeat' first | exact trivial | (intro _; assumption) | apply And.intro) ?_
          | refine TR.pv hP rfl (by first | exact s24 .. | exact s15a | exact s17' (by repeat constructor) (by rfl) (by decide +kernel) | exact s18 tr0 _ | exact s20 tr0) trivial (by repeat' first | exact trivial | (intro _; assumption) | apply And.intro) ?_
         try simp only [vX, cX', vcC_seq, vcC_reg, vcC_ret, seqK_nrm, nrmK_app, drwK_app, vcR_nil, vcR_n, vcR_s, isCall, makes, hasU, slK, newOf, opR, binI, pickV, evS, evV, evX, evSs, evVs, catV, gOf, Go.Bx.get, Go.Bx.own?, cellsV, isCell, cut, nth, dropV, takeV, toDs, St.stp, Ef.stp, Stp.lg, lgs, setE, applyU, newN, Option.getD_some, Option.map_some, List.all_cons, List.all_nil, List.map_nil, List.append_nil, List.nil_append, List.cons_append, List.length_cons, List.length_nil, List.mem_cons, List.not_mem_nil, Bool.true_and, Bool.and_self, Bool.false_eq_true, Bool.cond_false_right, ↓reduceIte, true_and, and_true, and_self, or_false, not_false_eq_true, forall_const, implies_true, imp_self, eq_self, Nat.reduceAdd, Nat.reduceEqDiff, Nat.zero_add, Nat.le_refl, Nat.succ_ne_self, Nat.reduceLT])
      | refine And.intro (fun h => ?_) (fun h => ?_)
      | refine And.intro (by first | omega | (simp only [maxLen, decide_eq_true_eq, decide_eq_false_iff_not] at *; omega)) ?_
      | refine And.intro rfl ?_
      | fail
  exact RetK.pure (by simp only [rs14, ressS, resS, and_self]) (by (simp only [rs14, retV, resV, Go.Bx.get, ↓reduceIte, eq_self, VLe_bool, Go.Bx.get, ↓reduceIte, eq_self]) <;> (first | decide +kernel))
theorem s3 (t : Tr) (amt : Int) (l : List Ls) (hl : l.length ≤ 9223372036854775807) (hlx : ∀ x, x ∈ l → x.per ≤ 9223372036854775807) : Ctr Try.prog 3 [vT t, .d (.int .i64 amt), .d (slX l)] [] (.d (.bool true)) [] [] := by
  have hb := bearsT_len t l
  refine pure3 (by simp) rfl rfl ?_
  intro c hP hfn
  simp only [c3, vT, cT, slX, vcC_seq, vcC_reg, seqK_nrm, nrmK_app, initE, vcR_nil, vcR_n, isCall, makes, newOf, opR, evS, evV, evX, Go.Bx.get, cellsV, isCell, St.stp, Ef.stp, lgs, setE, applyU, setO, newN, Option.getD_some, List.all_cons, List.all_nil, List.not_mem_nil, Bool.and_self, Bool.false_eq_true, ↓reduceIte, true_and, and_self, not_false_eq_true, eq_self, Nat.reduceAdd, Nat.zero_add]
  repeat' first
      | (first
          | refine TR.p hP (by first | exact s14 | exact s15 t l hl | exact s16 t l hl hlx | exact s17 _ _ (by omega) | exact s18 t amt | exact s19 t amt | exact s20 t | exact s21 t) (by repeat' first | exact trivial | (intro _; assumption) | apply And.intro) ?_
          | refine TR.gp hP rfl (fun _ => by first | exact s14 | exact s15 t l hl | exact s16 t l hl hlx | exact s17 _ _ (by omega) | exact s18 t amt | exact s19 t amt | exact s20 t | exact s21 t) (fun _ => by repeat' first | exact trivial | (intro _; assumption) | apply And.intro) ?_
          | refine TR.pv hP rfl (by first | exact s14 | exact s15 t l hl | exact s16 t l hl hlx | exact s17 _ _ (by omega) | exact s18 t amt | exact s19 t amt | exact s20 t | exact s21 t) trivial (by repeat' first | exact trivial | (intro _; assumption) | apply And.intro) ?_
         try simp only [vcC_seq, vcC_reg, vcC_drw, vcC_skip, vcC_cond, vcC_ret, seqK_nrm, seqK_ret, nrmK_app, drwK_app, vcR_nil, vcR_n, vcR_s, isCall, makes, hasU, slK, newOf, opR, binI, pickV, evS, evV, evX, gOf, Go.Bx.get, Go.Bx.own?, cut, nth, dropV, takeV, St.stp, Ef.stp, Stp.lg, lgs, setE, applyU, newN, Option.getD_some, List.map_nil, List.append_nil, List.nil_append, List.cons_append, List.length_cons, List.length_nil, List.mem_cons, List.not_mem_nil, Bool.and_self, Bool.false_eq_true, cond_true, reduceCtorEq, ↓reduceIte, true_and, and_self, or_false, not_false_eq_true, forall_const, implies_true, eq_self, Nat.reduceAdd, Nat.reduceEqDiff, Nat.zero_add, Nat.le_refl, Nat.succ_ne_self, Nat.zero_ne_one, Nat.reduceLT, decide_true, beq_self_eq_true])
      | refine And.intro (fun h => ?_) (fun h => ?_)
      | refine And.intro (by first | omega | (simp only [decide_eq_false_iff_not] at *; omega)) ?_
      | refine And.intro rfl ?_
      | fail
  all_goals exact RetK.pure (by simp only [rs3, ressS, resS, and_self]) (by (simp only [rs3, retV, resV, Go.Bx.get, ↓reduceIte, eq_self, VLe_refl, Go.Bx.get, ↓reduceIte, eq_self]) <;> (first | simp))
theorem part_law {t : Tr} {x : Ls} {v : Int} (h0 : 0 ≤ v) (h1 : v ≤ partX t x) (hx : lossX x = true) (hh : highT t = true) :
    (decide (v < 0) || decide (v > t.wid) || decide (v > x.amt) || (decide (v > 0) && (!(takesT t x) || decide (x.amt ≤ t.att)))) = false := by
  have hb := high_bounds hh
  have hl := lossX_iff.1 hx
  unfold partX at h1
  by_cases h : takesT t x = true
  · rw [if_pos h, partT_eq t (by omega) (by omega)] at h1
    simp only [h, Bool.not_true, Bool.false_or, Bool.or_eq_false_iff, decide_eq_false_iff_not, Bool.and_eq_false_iff]
    by_cases h2 : t.att < x.amt
    · rw [if_pos ⟨hh, h2⟩] at h1; omega
    · rw [if_neg (fun e => h2 e.2)] at h1; omega
  · rw [if_neg h] at h1
    simp only [Bool.or_eq_false_iff, decide_eq_false_iff_not, Bool.and_eq_false_iff]
    omega
theorem bears_high {t : Tr} {l : List Ls} (h : (bearsT t l).2 = 0) : highT t = true := by
  obtain ⟨_, h1, h2, _⟩ := bearsT_ok h
  simp [highT, h1, h2]
theorem bears_sum {t : Tr} {l : List Ls} (h : (bearsT t l).2 = 0) : (bearsT t l).1.sum = min (l.map (partX t)).sum (roomT t) ∧ 0 ≤ (l.map (partX t)).sum ∧ sumR 0 (bearsT t l).1 = (bearsT t l).1.sum ∧ (bearsT t l).1.length = l.length := by
  have hr := roomT_eq t
  have hb := (bearsT_ok h).1
  have hs := deal_sum (l.map (partX t)) (roomT t) hr.2.1 (partsX_nonneg t l)
  have hl := deal_len (l.map (partX t)) (roomT t)
  rw [← hb] at hs hl
  refine ⟨hs.1, hs.2, sumR_in _ (by omega) (by omega), by simpa using hl⟩

theorem s4 (t : Tr) (l : List Ls) (hl : l.length ≤ 9223372036854775807) : Ctr Try.prog 4 [vT t, .d (slX l)] [] (.d (.bool true)) [] [] := by
  have hb := bearsT_len t l
  refine pure4 (by simp) rfl rfl ?_
  intro c hP hfn
  simp only [c4, vT, cT, slX, vcC_seq, vcC_reg, seqK_nrm, nrmK_app, initE, vcR_nil, vcR_n, isCall, makes, newOf, opR, evS, evV, evX, Go.Bx.get, cellsV, isCell, St.stp, Ef.stp, lgs, setE, applyU, setO, newN, Option.getD_some, List.all_cons, List.all_nil, List.not_mem_nil, Bool.and_self, Bool.false_eq_true, ↓reduceIte, true_and, and_self, not_false_eq_true, eq_self, Nat.zero_add]
  repeat' first
      | (first
          | refine TR.p hP (by first | exact s14 | exact s15 t l hl | exact s22 _ (by omega) | exact s20 t) (by repeat' first | exact trivial | (intro _; assumption) | apply And.intro) ?_
          | refine TR.gp hP rfl (fun _ => by first | exact s14 | exact s15 t l hl | exact s22 _ (by omega) | exact s20 t) (fun _ => by repeat' first | exact trivial | (intro _; assumption) | apply And.intro) ?_
          | refine TR.pv hP rfl (by first | exact s14 | exact s15 t l hl | exact s22 _ (by omega) | exact s20 t) trivial (by repeat' first | exact trivial | (intro _; assumption) | apply And.intro) ?_
         try simp only [vcC_seq, vcC_reg, vcC_drw, vcC_skip, vcC_cond, vcC_block, vcC_ret, seqK_nrm, seqK_ret, nrmK_app, drwK_app, vcR_nil, vcR_n, vcR_s, isCall, makes, hasU, slK, newOf, opR, binI, pickV, evS, evV, evX, gOf, Go.Bx.get, Go.Bx.own?, cut, nth, dropV, takeV, St.stp, Ef.stp, Stp.lg, lgs, setE, applyU, newN, Option.getD_some, List.map_nil, List.append_nil, List.nil_append, List.cons_append, List.length_cons, List.length_nil, List.mem_cons, List.not_mem_nil, Bool.true_and, Bool.and_self, Bool.false_eq_true, Bool.cond_true_left, cond_true, ↓reduceIte, true_and, and_true, and_self, or_false, not_false_eq_true, forall_const, implies_true, imp_self, eq_self, Nat.reduceAdd, Nat.reduceEqDiff, Nat.zero_add, Nat.le_refl, Nat.succ_ne_self, Nat.zero_ne_one, Nat.reduceLT])
      | refine And.intro (fun h => ?_) (fun h => ?_)
      | refine And.intro (by first | omega | (simp only [decide_eq_false_iff_not] at *; omega)) ?_
      | refine And.intro rfl ?_
      | fail
  · exact RetK.pure (by simp only [rs4, ressS, resS, and_self]) (by (simp only [rs4, retV, resV, Go.Bx.get, ↓reduceIte, eq_self, VLe_refl, Go.Bx.get, ↓reduceIte, eq_self]) <;> (first | simp))
  · exact RetK.pure (by simp only [rs4, ressS, resS, and_self]) (by (simp only [rs4, retV, resV, Go.Bx.get, ↓reduceIte, eq_self, VLe_bool, Go.Bx.get, ↓reduceIte, eq_self]) <;> (first | simp [bearsT_bad (by simpa using h)]))
  · exfalso
    rename_i h1
    have hs := bears_sum (by simpa using h1)
    rw [hs.2.2.1, hs.2.2.2, hs.1] at h
    simp at h
    omega
  rename_i h1
  have h2 : (bearsT t l).2 = 0 := by simpa using h1
  have hs := bears_sum h2
  have hh := bears_high h2
  have hok := bearsT_ok h2
  have hr := roomT_eq t
  refine vcC.loop (X := Nat) (fun k => ⟨[(1, .d (slX l)), (2, .own 2 0), (5, .d (.bool true)), (6, .d (slK .i64 (bearsT t l).1)), (8, .d (.int .i64 k))], [(2, .fix (cT t))], [2]⟩)
    (fun k => k ≤ l.length) (fun k => l.length - k) 0 (Nat.zero_le _) (Wk.of [] hfn rfl (by (simp only [slX, EnvLe, VLe_refl, slK, Go.Bx.get, ↓reduceIte, and_self, eq_self, Nat.reduceEqDiff, Nat.succ_ne_self, Nat.zero_ne_one, Int.cast_ofNat_Int]) <;> (first | exact wS (by omega) | (rw [List.length_append]; exact wS (by omega)) | assumption)) (by simp only [cT, OwnLe, OLe_refl, exists_eq_left', Option.some.injEq, Go.Bx.own?, ↓reduceIte, and_self, eq_self])) ?_
  rintro k hk
  simp only [slX, cT, hs.2.2.2, vcC_seq, vcC_reg, vcC_drw, vcC_skip, vcC_cond, vcC_block, vcC_exit, vcC_ret, seqK_nrm, seqK_exit, blkK_exit, lopK_exit, nrmK_app, vcR_nil, vcR_n, vcR_s, isCall, makes, hasU, slK, newOf, opR, binI, pickV, evS, evV, evX, gOf, Go.Bx.get, Go.Bx.own?, cut, cutD, nth, nthD, dropV, takeV, dropD, takeDV, St.stp, Ef.stp, Stp.lg, lgs, setE, applyU, newN, Option.getD_some, List.map_nil, List.append_nil, List.nil_append, List.cons_append, List.length_cons, List.length_nil, List.mem_cons, List.not_mem_nil, Bool.true_and, Bool.false_eq_true, Bool.cond_true_left, ↓reduceIte, true_and, and_true, and_self, or_false, not_false_eq_true, forall_const, implies_true, imp_self, eq_self, Nat.reduceAdd, Nat.reduceLeDiff, Nat.reduceEqDiff, Nat.zero_add, Nat.le_refl, Nat.succ_ne_self, Int.toNat_natCast]
  refine ⟨fun h3 => ?_, fun h3 => ?_⟩
  · have hlt : k < l.length := by have := of_decide_eq_true h3; omega
    obtain ⟨x, hd, hg, hm, hat⟩ := drop_at hlt
    have hv := deal_at (l.map (partX t)) (roomT t) k hr.2.1 (partsX_nonneg t l)
    rw [← hok.1] at hv
    have e : (l.map (partX t)).getD k 0 = partX t x := by simp [hat]
    rw [e] at hv
    have hlaw := part_law hv.1 hv.2 (hok.2.2.2.1 x hm) hh
    simp only [hg]
    repeat' first
        | (first
            | refine TR.p hP (by first | exact s23 t x) (by repeat' first | exact trivial | (intro _; assumption) | apply And.intro) ?_
            | refine TR.gp hP rfl (fun _ => by first | exact s23 t x) (fun _ => by repeat' first | exact trivial | (intro _; assumption) | apply And.intro) ?_
            | refine TR.pv hP rfl (by first | exact s23 t x) trivial (by repeat' first | exact trivial | (intro _; assumption) | apply And.intro) ?_
           try simp only [hg, vcC_seq, vcC_reg, vcC_skip, vcC_cond, vcC_ret, seqK_nrm, seqK_ret, blkK_nrm, blkK_ret, lopK_ret, nrmK_app, drwK_app, vcR_nil, vcR_n, vcR_s, isCall, makes, hasU, newOf, opR, binI, pickV, evS, evV, evX, gOf, Go.Bx.get, Go.Bx.own?, cut, cutD, nth, nthD, dropD, St.stp, Ef.stp, Stp.lg, lgs, setE, applyU, newN, Option.getD_some, List.map_nil, List.append_nil, List.nil_append, List.cons_append, List.length_cons, List.length_nil, List.mem_cons, List.not_mem_nil, Bool.true_and, Bool.false_eq_true, Bool.cond_true_left, Bool.cond_false_right, ↓reduceIte, true_and, and_true, and_self, or_false, not_false_eq_true, forall_const, implies_true, imp_self, eq_self, Nat.reduceAdd, Nat.reduceLeDiff, Nat.reduceEqDiff, Nat.zero_add, Nat.le_refl, Nat.succ_ne_self, Int.toNat_natCast])
        | refine And.intro (fun h => ?_) (fun h => ?_)
        | refine And.intro (by first | omega | (simp only [decide_eq_true_eq, decide_eq_false_iff_not] at *; omega)) ?_
        | refine And.intro rfl ?_
        | fail
    · rw [hlaw] at h; cases h
    · exact lopK.on (k + 1) hlt (by omega) (Wk.of [] hfn rfl (by (simp only [EnvLe, VLe_refl, VLe_int, Go.Bx.get, ↓reduceIte, true_and, and_true, eq_self, Nat.reduceEqDiff]) <;> (first | exact wS (by omega) | (rw [List.length_append]; exact wS (by omega)) | assumption)) (by simp only [OwnLe, OLe_refl, exists_eq_left', Option.some.injEq, Go.Bx.own?, ↓reduceIte, and_self, eq_self]))
  · exact RetK.pure (by simp only [rs4, ressS, resS, and_self]) (by (simp only [rs4, retV, resV, Go.Bx.get, ↓reduceIte, eq_self, VLe_refl, Go.Bx.get, ↓reduceIte, eq_self]) <;> (first | simp))

theorem any_snoc {x : Ls} {l : List Ls} : (l ++ [x]).any (fun x => !(lossX x)) = (l.any (fun x => !(lossX x)) || !(lossX x)) := by simp
theorem bears_snoc {t : Tr} {l : List Ls} {x : Ls} (h : (bearsT t (l ++ [x])).2 = 0) : (bearsT t l).2 = 0 ∧ (bearsT t (l ++ [x])).1 = (bearsT t l).1 ++ [min (partX t x) (roomT t - (bearsT t l).1.sum)] := by
  have hr := roomT_eq t
  have hok := bearsT_ok h
  have h2 : (bearsT t l).2 = 0 := by
    unfold bearsT
    rw [if_neg, if_neg]
    · have := hok.2.2.2.2; simp at this; omega
    · simp only [hok.2.1, hok.2.2.1, Bool.not_true, bne_self_eq_false, Bool.or_self, Bool.false_or, List.any_eq_true, not_exists, not_and]
      intro y hy
      simp [hok.2.2.2.1 y (by simp [hy])]
  refine ⟨h2, ?_⟩
  rw [hok.1, (bearsT_ok h2).1, List.map_append, List.map_singleton]
  exact deal_app _ _ _ hr.2.1 (partsX_nonneg t l)
theorem s5 (t : Tr) (l : List Ls) (x : Ls) (hl : l.length ≤ 9223372036854775807) : Ctr Try.prog 5 [vT t, .d (slX l), vX x] [] (.d (.bool true)) [] [] := by
  have hb := bearsT_len t l
  refine pure5 (by simp) rfl rfl ?_
  intro c hP hfn
  simp only [c5, vT, cT, slX, vX, cX', vcC_seq, vcC_reg, seqK_nrm, nrmK_app, initE, vcR_nil, vcR_n, isCall, makes, newOf, opR, evS, evV, evX, Go.Bx.get, cellsV, isCell, St.stp, Ef.stp, lgs, setE, applyU, setO, newN, Option.getD_some, List.all_cons, List.all_nil, List.mem_cons, List.not_mem_nil, Bool.and_self, Bool.false_eq_true, reduceCtorEq, ↓reduceIte, true_and, and_self, or_false, not_false_eq_true, eq_self, Nat.reduceAdd, Nat.reduceEqDiff, Nat.zero_add, Nat.succ_ne_self]
  repeat' first
      | (first
          | refine TR.p hP (by first | exact s14 | exact s15 t l (by omega)) (by repeat' first | exact trivial | (intro _; assumption) | apply And.intro) ?_
          | refine TR.gp hP rfl (fun _ => by first | exact s14 | exact s15 t l (by omega)) (fun _ => by repeat' first | exact trivial | (intro _; assumption) | apply And.intro) ?_
          | refine TR.pv hP rfl (by first | exact s14 | exact s15 t l (by omega)) trivial (by repeat' first | exact trivial | (intro _; assumption) | apply And.intro) ?_
         try simp only [vcC_seq, vcC_reg, vcC_drw, vcC_skip, vcC_cond, vcC_ret, seqK_nrm, seqK_ret, nrmK_app, vcR_nil, vcR_n, isCall, makes, slK, newOf, opR, binI, evS, evV, evX, evSs, evVs, catV, Go.Bx.get, Go.Bx.own?, cellsV, isCell, cut, nth, dropV, takeV, toDs, St.stp, Ef.stp, Stp.lg, lgs, setE, applyU, setO, delO, newN, Option.getD_some, Option.map_some, List.all_cons, List.all_nil, List.map_cons, List.map_nil, List.append_nil, List.nil_append, List.cons_append, List.length_cons, List.length_nil, List.mem_cons, List.not_mem_nil, Bool.and_self, Bool.false_eq_true, ↓reduceIte, true_and, and_true, and_self, or_false, not_false_eq_true, forall_const, implies_true, eq_self, Nat.reduceAdd, Nat.reduceEqDiff, Nat.zero_add, Nat.le_refl, Nat.succ_ne_self, Nat.zero_ne_one, litRow, Nat.reduceLT, Nat.not_lt_zero, Nat.sub_zero, true_or])
      | refine And.intro (fun h => ?_) (fun h => ?_)
      | refine And.intro (by first | omega | (simp only [maxLen, decide_eq_false_iff_not] at *; omega)) ?_
      | refine And.intro rfl ?_
      | fail
  · exact RetK.pure (by simp only [rs5, ressS, resS, and_self]) (by (simp only [rs5, retV, resV, Go.Bx.get, ↓reduceIte, eq_self, VLe_refl, Go.Bx.get, ↓reduceIte, eq_self]) <;> (first | simp))
  · have h100 : l.length ≤ 99 := by have := of_decide_eq_false h; omega
    refine TR.pub hP 32 rfl ((s15 t (l ++ [x]) (by simp; omega)).arg ⟨VLe.refl _, VLe.sl (by simp) (fun _ => rfl) (fun h => h) (fun i hi => ?_), trivial⟩) (by repeat' first | exact trivial | (intro _; assumption) | apply And.intro) ?_
    · by_cases h2 : i < l.length
      · simp [h2, List.getElem?_append_left]
      · have h3 : i = l.length := by omega
        subst h3; simp
    simp only [↓evSo_some, vcC_seq, vcC_reg, vcC_skip, vcC_cond, vcC_ret, seqK_nrm, seqK_ret, nrmK_app, drwK_app, vcR_nil, vcR_n, vcR_s, isCall, makes, hasU, slK, newOf, opR, binI, pickV, evS, evV, evX, gOf, Go.Bx.get, nth, St.stp, Ef.stp, Stp.lg, lgs, setE, applyU, delO, newN, Option.getD_some, Option.map_some, Option.map_none, List.map_nil, List.append_nil, List.nil_append, List.cons_append, List.length_cons, List.length_nil, List.mem_cons, List.not_mem_nil, Bool.true_and, Bool.and_self, Bool.false_eq_true, Bool.cond_true_left, cond_true, ↓reduceIte, true_and, and_true, and_self, or_false, not_false_eq_true, forall_const, implies_true, imp_self, eq_self, Nat.reduceAdd, Nat.reduceEqDiff, Nat.zero_add, Nat.succ_ne_self, Int.toNat_natCast, Nat.reduceLT]
    repeat' first
        | (first
            | refine TR.p hP (by first | fail) (by repeat' first | exact trivial | (intro _; assumption) | apply And.intro) ?_
            | refine TR.gp hP rfl (fun _ => by first | fail) (fun _ => by repeat' first | exact trivial | (intro _; assumption) | apply And.intro) ?_
            | refine TR.pv hP rfl (by first | fail) trivial (by repeat' first | exact trivial | (intro _; assumption) | apply And.intro) ?_
           try simp only [↓evSo_some, vcC_seq, vcC_reg, vcC_drw, vcC_skip, vcC_cond, vcC_block, vcC_exit, vcC_ret, vcC_bad, seqK_nrm, seqK_exit, seqK_ret, blkK_nrm, blkK_exit, blkK_ret, lopK_exit, lopK_ret, nrmK_app, drwK_app, initE, vcR_nil, vcR_n, vcR_s, isCall, makes, hasU, slK, newOf, opR, binI, pickV, evS, evV, evX, evSs, evVs, evParts, evPartsS, fillV, catV, gOf, Go.Bx.get, Go.Bx.own?, cellsV, isCell, cut, cutD, nth, nthD, dropV, takeV, dropD, takeDV, putV, toDs, St.stp, Ef.stp, Stp.lg, lgs, setE, applyU, setO, delO, newN, keysO, callU, Ef.bad, Option.getD_some, Option.getD_none, Option.map_some, Option.map_none, List.all_cons, List.all_nil, List.map_cons, List.map_nil, List.append_nil, List.nil_append, List.cons_append, List.length_cons, List.length_nil, List.mem_cons, List.not_mem_nil, Bool.and_true, Bool.true_and, Bool.and_self, Bool.not_true, Bool.not_false, Bool.or_self, Bool.or_false, Bool.false_or, Bool.false_eq_true, Bool.true_eq_false, Bool.cond_true_left, Bool.cond_false_right, cond_true, cond_false, reduceCtorEq, ↓reduceIte, if_true, if_false, true_and, and_true, and_self, false_and, and_false, or_false, false_or, not_false_eq_true, not_true_eq_false, forall_const, true_implies, false_implies, implies_true, imp_self, eq_self, ne_eq, Nat.reduceAdd, Nat.reduceSub, Nat.reduceMul, Nat.reduceLeDiff, Nat.reduceEqDiff, Nat.zero_add, Nat.add_zero, Nat.le_refl, Nat.succ_ne_self, Nat.one_ne_zero, Nat.zero_ne_one, Int.toNat_natCast, litRow, List.drop_succ_cons, List.drop_zero, List.take_succ_cons, List.take_zero, pubE, pubV, pubL, pubO, eqS, eqB, Nat.reduceLT, Nat.not_lt_zero, Nat.sub_zero, decide_true, decide_false, true_or, or_true, Int.le_refl, Int.cast_ofNat_Int, Int.reduceToNat, Int.reduceLT, Int.reduceLE, beq_self_eq_true, Nat.mul_one, Nat.one_mul, Nat.zero_mul])
        | refine And.intro (fun h => ?_) (fun h => ?_)
        | refine And.intro (by first | omega | (simp only [decide_eq_false_iff_not] at *; omega)) ?_
        | refine And.intro rfl ?_
        | fail
    · exact RetK.pure (by simp only [rs5, ressS, resS, and_self]) (by (simp only [rs5, retV, resV, Go.Bx.get, ↓reduceIte, eq_self, VLe_bool, Go.Bx.get, ↓reduceIte, eq_self]) <;> (first | (
        by_cases hf : (bearsT t (l ++ [x])).2 = 0
        · simp [(bears_snoc hf).1]
        · simp [hf])))
    · have hf : (bearsT t (l ++ [x])).2 = 0 := by simp at h; exact h.2
      have hsn := bears_snoc hf
      have hs := bears_sum hsn.1
      simp only [hsn.2]
      generalize (bearsT t l).1 = a at *
      refine And.intro (fun _ => ⟨by omega, by simp; omega⟩) ?_
      refine TR.gp hP rfl (fun _ => (s17 a a (by omega)).arg ⟨VLe.refl _, VLe.sl rfl (fun _ => rfl) (by simp) (fun i hi => by simp [List.getElem?_append_left hi]), trivial⟩) (fun _ => (by repeat' first | exact trivial | (intro _; assumption) | apply And.intro)) ?_
      simp only [vcC_seq, vcC_reg, vcC_skip, vcC_cond, vcC_ret, seqK_nrm, seqK_ret, nrmK_app, vcR_nil, vcR_n, vcR_s, isCall, makes, hasU, newOf, opR, pickV, evS, evV, evX, gOf, Go.Bx.get, Go.Bx.own?, cut, dropV, takeV, St.stp, Ef.stp, lgs, setE, applyU, newN, Option.getD_some, List.length_cons, List.length_nil, List.mem_cons, List.not_mem_nil, Bool.and_true, Bool.true_and, Bool.not_true, Bool.false_eq_true, Bool.cond_false_right, ↓reduceIte, true_and, and_self, or_false, not_false_eq_true, forall_const, implies_true, imp_self, eq_self, Nat.reduceAdd, Nat.reduceEqDiff, Nat.zero_add, Nat.le_refl, Nat.succ_ne_self, decide_true]
      repeat' first
          | (first
              | refine TR.p hP (by first | exact s20 t | exact s22 a (by omega) | exact s23 t x | exact s18 t x.amt) (by repeat' first | exact trivial | (intro _; assumption) | apply And.intro) ?_
              | refine TR.gp hP rfl (fun _ => by first | exact s20 t | exact s22 a (by omega) | exact s23 t x | exact s18 t x.amt) (fun _ => by repeat' first | exact trivial | (intro _; assumption) | apply And.intro) ?_
              | refine TR.pv hP rfl (by first | exact s20 t | exact s22 a (by omega) | exact s23 t x | exact s18 t x.amt) trivial (by repeat' first | exact trivial | (intro _; assumption) | apply And.intro) ?_
             try simp only [vcC_seq, vcC_reg, vcC_skip, vcC_cond, vcC_ret, seqK_nrm, nrmK_app, vcR_nil, vcR_n, vcR_s, isCall, makes, hasU, newOf, opR, binI, pickV, evS, evV, evX, gOf, Go.Bx.get, Go.Bx.own?, cut, cutD, nth, nthD, dropV, takeV, St.stp, Ef.stp, lgs, setE, applyU, newN, Option.getD_some, List.length_cons, List.length_nil, List.mem_cons, List.not_mem_nil, Bool.and_self, Bool.false_eq_true, cond_true, ↓reduceIte, true_and, and_true, and_self, or_false, not_false_eq_true, forall_const, implies_true, eq_self, Nat.reduceAdd, Nat.reduceEqDiff, Nat.zero_add, Nat.le_refl, Nat.succ_ne_self, Int.toNat_natCast])
          | refine And.intro (fun h => ?_) (fun h => ?_)
          | refine And.intro (by first | omega | (simp only [decide_eq_false_iff_not] at *; omega)) ?_
          | refine And.intro rfl ?_
          | fail
      · exfalso
        rw [wS (by omega)] at h
        simp at h
      · have hr := roomT_eq t
        have e : partX t x = partT t x.amt := if_pos h
        refine And.intro (by simp; omega) ?_
        exact RetK.pure (by simp only [rs5, ressS, resS, and_self]) (by (simp only [rs5, retV, resV, Go.Bx.get, ↓reduceIte, eq_self, VLe_bool, Go.Bx.get, ↓reduceIte, eq_self]) <;> (first | rw [hs.2.2.1, e, wI (a := roomT t - a.sum) (by omega)]; simp))
      · have hr := roomT_eq t
        have e : partX t x = 0 := if_neg (by simp [h])
        refine And.intro (by simp; omega) ?_
        exact RetK.pure (by simp only [rs5, ressS, resS, and_self]) (by (simp only [rs5, retV, resV, Go.Bx.get, ↓reduceIte, eq_self, VLe_bool, Go.Bx.get, ↓reduceIte, eq_self]) <;> (first | rw [e]; simp; omega))

/-! The losses, back to front. -/
theorem bears_rev (t : Tr) (l : List Ls) : (bearsT t l.reverse).2 = (bearsT t l).2 := by
  unfold bearsT
  rw [List.any_reverse, List.length_reverse]
  split <;> (try rfl)
  split <;> rfl
def withR (t : Tr) : Int → List Ls → Int
  | n, [] => n
  | n, x :: r => withR t (if takesT t x = true then IntKind.i64.wrap (n + partT t x.amt) else n) r
theorem withR_eq (t : Tr) : ∀ (l : List Ls) (n : Int), 0 ≤ n → n + 1000000000000000 * l.length ≤ 9000000000000000000 → withR t n l = n + (l.map (partX t)).sum
  | [], n, _, _ => by simp [withR]
  | x :: r, n, h0, h1 => by
    have hp := partX_bounds t x
    simp only [List.length_cons] at h1
    rw [withR, List.map_cons, List.sum_cons]
    by_cases h : takesT t x = true
    · have e : partX t x = partT t x.amt := if_pos h
      rw [if_pos h, ← e, wI (by omega), withR_eq t r _ (by omega) (by omega)]; omega
    · have e : partX t x = 0 := if_neg h
      rw [if_neg h, e, withR_eq t r n h0 (by omega)]; omega
theorem sum_rev (t : Tr) (l : List Ls) : (l.reverse.map (partX t)).sum = (l.map (partX t)).sum := by
  rw [List.map_reverse]
  induction l.map (partX t) with
  | nil => rfl
  | cons p r ih => simp [ih]; omega
theorem rev_take {l : List Ls} {k : Nat} (h : k < l.length) : l.reverse.take (k + 1) = l.reverse.take k ++ [l.getD (l.length - 1 - k) default] := by
  rw [List.take_add_one, List.getElem?_reverse h]
  have : l.length - 1 - k < l.length := by omega
  simp [this]
theorem s6 (t : Tr) (l : List Ls) (hl : l.length ≤ 9223372036854775807) : Ctr Try.prog 6 [vT t, .d (slX l)] [] (.d (.bool true)) [] [] := by
  have hb := bearsT_len t l
  have hb2 := bearsT_len t l.reverse
  rw [List.length_reverse] at hb2
  refine pure6 (by simp) rfl rfl ?_
  intro c hP hfn
  simp only [c6, vT, cT, slX, vcC_seq, vcC_reg, seqK_nrm, nrmK_app, initE, vcR_nil, vcR_n, isCall, makes, newOf, opR, evS, evV, evX, Go.Bx.get, cellsV, isCell, St.stp, Ef.stp, lgs, setE, applyU, setO, newN, Option.getD_some, List.all_cons, List.all_nil, List.not_mem_nil, Bool.and_self, Bool.false_eq_true, ↓reduceIte, true_and, and_self, not_false_eq_true, eq_self, Nat.zero_add]
  repeat' first
      | (first
          | refine TR.p hP (by first | exact s14) (by repeat' first | exact trivial | (intro _; assumption) | apply And.intro) ?_
          | refine TR.gp hP rfl (fun _ => by first | exact s14) (fun _ => by repeat' first | exact trivial | (intro _; assumption) | apply And.intro) ?_
          | refine TR.pv hP rfl (by first | exact s14) trivial (by repeat' first | exact trivial | (intro _; assumption) | apply And.intro) ?_
         try simp only [vcC_seq, vcC_reg, vcC_skip, vcC_cond, vcC_block, vcC_ret, seqK_nrm, seqK_ret, nrmK_app, vcR_nil, vcR_n, isCall, makes, newOf, opR, binI, evS, evV, evX, Go.Bx.get, St.stp, Ef.stp, lgs, setE, applyU, newN, Bool.false_eq_true, ↓reduceIte, true_and, and_self, eq_self, Nat.reduceEqDiff, Nat.succ_ne_self, Nat.zero_ne_one])
      | refine And.intro (fun h => ?_) (fun h => ?_)
      | refine And.intro (by first | omega | (simp only [maxLen, decide_eq_true_eq, decide_eq_false_iff_not] at *; omega)) ?_
      | refine And.intro rfl ?_
      | fail
  · exact RetK.pure (by simp only [rs6, ressS, resS, and_self]) (by (simp only [rs6, retV, resV, Go.Bx.get, ↓reduceIte, eq_self, VLe_refl, Go.Bx.get, ↓reduceIte, eq_self]) <;> (first | simp))
  have h100 : l.length ≤ 100 := by have := of_decide_eq_false h; omega
  refine vcC.loop (X := List Ls) (fun x => ⟨[(6, .osl 1000), (1, .d (slX l)), (2, .own 2 0), (5, .d (.bool true)), (7, .d (.int .i64 0)), (8, .d (.int .i64 ((l.length : Int) - 1 - x.length)))],
        [(1000, .row 38 5 x.length (fun i => [.int .i64 (x.getD i default).cl, .int .i64 (x.getD i default).ev, .int .i64 (x.getD i default).day, .int .i64 (x.getD i default).per, .int .i64 (x.getD i default).amt])), (2, .fix (cT t))], [1000, 2]⟩)
      (fun x => x.length ≤ l.length ∧ x = l.reverse.take x.length) (fun x => l.length - x.length) [] ⟨Nat.zero_le _, rfl⟩
      ((Wk.row0 (s := 6) (k := 1000) (e := 38) (sz := 5) (f' := fun _ => []) rfl rfl (by simp)).trans (Wk.of _ hfn rfl (by simp only [slX, EnvLe, VLe_refl, VLe_int, Go.Bx.get, List.length_nil, ↓reduceIte, true_and, and_true, eq_self, Nat.reduceEqDiff, Nat.succ_ne_self, Nat.zero_ne_one, Int.cast_ofNat_Int]; exact (wI (a := (l.length : Int) - 1) (by omega)).trans (by simp)) (by simp only [cT, OwnLe, OLe_refl, exists_eq_left', Option.some.injEq, Go.Bx.own?, setO, List.length_nil, ↓reduceIte, and_true, and_self, eq_self, Nat.reduceEqDiff]; exact OLe.row rfl (fun i hi => absurd hi (Nat.not_lt_zero i))))) ?_
  rintro bk ⟨hk, he⟩
  simp only [slX, cT, vcC_seq, vcC_reg, vcC_skip, vcC_cond, vcC_block, vcC_exit, seqK_nrm, seqK_exit, blkK_nrm, blkK_exit, lopK_exit, nrmK_app, vcR_nil, vcR_n, isCall, makes, newOf, opR, binI, evS, evV, evX, evSs, evVs, catV, Go.Bx.get, Go.Bx.own?, cellsV, isCell, cut, cutD, dropV, takeV, dropD, takeDV, toDs, St.stp, Ef.stp, lgs, setE, applyU, setO, delO, newN, Option.getD_some, Option.map_some, List.all_cons, List.all_nil, List.append_nil, List.length_cons, List.length_nil, List.mem_cons, List.not_mem_nil, Bool.and_self, Bool.false_eq_true, ↓reduceIte, true_and, and_true, and_self, or_false, not_false_eq_true, forall_const, eq_self, Nat.reduceAdd, Nat.reduceEqDiff, Nat.zero_add, Nat.le_refl, Nat.succ_ne_self, litRow, Nat.reduceLT]
  refine ⟨fun h1 => ?_, fun h1 => ?_⟩
  · have hlt : bk.length < l.length := by have := of_decide_eq_true h1; omega
    have e : ((l.length : Int) - 1 - bk.length).toNat = l.length - 1 - bk.length := by omega
    repeat' first
        | (first
            | refine TR.p hP (by first | fail) (by repeat' first | exact trivial | (intro _; assumption) | apply And.intro) ?_
            | refine TR.gp hP rfl (fun _ => by first | fail) (fun _ => by repeat' first | exact trivial | (intro _; assumption) | apply And.intro) ?_
            | refine TR.pv hP rfl (by first | fail) trivial (by repeat' first | exact trivial | (intro _; assumption) | apply And.intro) ?_
           try simp only [e, ↓evSo_some, vcC_seq, vcC_reg, vcC_drw, vcC_skip, vcC_cond, vcC_block, vcC_exit, vcC_ret, vcC_bad, seqK_nrm, seqK_exit, seqK_ret, blkK_nrm, blkK_exit, blkK_ret, lopK_exit, lopK_ret, nrmK_app, drwK_app, initE, vcR_nil, vcR_n, vcR_s, isCall, makes, hasU, slK, newOf, opR, binI, pickV, evS, evV, evX, evSs, evVs, evParts, evPartsS, fillV, catV, gOf, Go.Bx.get, Go.Bx.own?, cellsV, isCell, cut, cutD, nth, nthD, dropV, takeV, dropD, takeDV, putV, toDs, St.stp, Ef.stp, Stp.lg, lgs, setE, applyU, setO, delO, newN, keysO, callU, Ef.bad, Option.getD_some, Option.getD_none, Option.map_some, Option.map_none, List.all_cons, List.all_nil, List.map_cons, List.map_nil, List.append_nil, List.nil_append, List.cons_append, List.length_cons, List.length_nil, List.mem_cons, List.not_mem_nil, Bool.and_true, Bool.true_and, Bool.and_self, Bool.not_true, Bool.not_false, Bool.or_self, Bool.or_false, Bool.false_or, Bool.false_eq_true, Bool.true_eq_false, Bool.cond_true_left, Bool.cond_false_right, cond_true, cond_false, reduceCtorEq, ↓reduceIte, if_true, if_false, true_and, and_true, and_self, false_and, and_false, or_false, false_or, not_false_eq_true, not_true_eq_false, forall_const, true_implies, false_implies, implies_true, imp_self, eq_self, ne_eq, Nat.reduceAdd, Nat.reduceSub, Nat.reduceMul, Nat.reduceLeDiff, Nat.reduceEqDiff, Nat.zero_add, Nat.add_zero, Nat.le_refl, Nat.succ_ne_self, Nat.one_ne_zero, Nat.zero_ne_one, Int.toNat_natCast, litRow, List.drop_succ_cons, List.drop_zero, List.take_succ_cons, List.take_zero, pubE, pubV, pubL, pubO, eqS, eqB, Nat.reduceLT, Nat.not_lt_zero, Nat.sub_zero, decide_true, decide_false, true_or, or_true, Int.le_refl, Int.cast_ofNat_Int, Int.reduceToNat, Int.reduceLT, Int.reduceLE, beq_self_eq_true, Nat.mul_one, Nat.one_mul, Nat.zero_mul])
        | refine And.intro (fun h => ?_) (fun h => ?_)
        | refine And.intro (by first | omega | (simp only [maxLen, decide_eq_true_eq, decide_eq_false_iff_not] at *; omega)) ?_
        | refine And.intro rfl ?_
        | fail
    refine lopK.on (bk ++ [l.getD (l.length - 1 - bk.length) default]) ⟨by simp; omega, ?_⟩ (by simp; omega) (Wk.snoc (k := 32) _ hfn rfl rfl rfl rfl (OLe.app1 (cells := fun n : Ls => [.int .i64 n.cl, .int .i64 n.ev, .int .i64 n.day, .int .i64 n.per, .int .i64 n.amt]) (fun i hi => by simp only [if_pos hi]) (by simp [e])) (by simp only [EnvLe, VLe_refl, VLe_int, Go.Bx.get, ↓reduceIte, true_and, and_true, eq_self, Nat.reduceEqDiff, Nat.succ_ne_self]; exact (wI (a := (l.length : Int) - 1 - bk.length - 1) (by omega)).trans (by simp; omega)) (by simp only [OwnLe, OLe_refl, exists_eq_left', Option.some.injEq, Go.Bx.own?, ↓reduceIte, and_self, eq_self]) (by simp) (by simp only [EnvLe, VLe_refl, Go.Bx.get, ↓reduceIte, and_self, eq_self, Nat.reduceEqDiff, Nat.succ_ne_self]) (by simp only [OwnLe, OLe_refl, exists_eq_left', Option.some.injEq, Go.Bx.own?, setO, delO, ↓reduceIte, and_self, eq_self, Nat.reduceEqDiff]))
    rw [List.length_append, List.length_singleton, rev_take hlt, ← he]
  have hbl : bk.length = l.length := by have := of_decide_eq_false h1; omega
  have hbk : bk = l.reverse := by rw [he, hbl, List.take_of_length_le (by simp)]
  clear he hk h1 hbl
  subst hbk
  repeat' first
      | (first
          | refine TR.p hP (by first | exact s15 t l hl) (by repeat' first | exact trivial | (intro _; assumption) | apply And.intro) ?_
          | refine TR.gp hP rfl (fun _ => by first | exact s15 t l hl) (fun _ => by repeat' first | exact trivial | (intro _; assumption) | apply And.intro) ?_
          | refine TR.pv hP rfl (by first | exact s15 t l hl) trivial (by repeat' first | exact trivial | (intro _; assumption) | apply And.intro) ?_
         try simp only [vcC_seq, vcC_reg, seqK_nrm, nrmK_app, vcR_nil, vcR_n, isCall, makes, slK, newOf, opR, evS, evV, evX, Go.Bx.get, Go.Bx.own?, cut, nth, dropV, takeV, St.stp, Ef.stp, lgs, setE, applyU, newN, List.length_cons, List.length_nil, Bool.false_eq_true, ↓reduceIte, true_and, and_self, eq_self, Nat.reduceAdd, Nat.reduceEqDiff, Nat.zero_add, Nat.le_refl, Nat.succ_ne_self, Nat.reduceLT])
      | refine And.intro (fun h => ?_) (fun h => ?_)
      | refine And.intro (by first | omega | (simp only [maxLen, decide_eq_true_eq, decide_eq_false_iff_not] at *; omega)) ?_
      | refine And.intro rfl ?_
      | fail
  refine TR.pub hP 1000 rfl ((s15 t l.reverse (by simp; omega)).arg ⟨VLe.refl _, VLe.refl _, trivial⟩) (by repeat' first | exact trivial | (intro _; assumption) | apply And.intro) ?_
  simp only [vcC_seq, vcC_reg, vcC_skip, vcC_cond, vcC_block, vcC_ret, seqK_nrm, seqK_ret, nrmK_app, vcR_nil, vcR_n, vcR_s, isCall, makes, hasU, slK, newOf, opR, binI, pickV, evS, evV, evX, gOf, Go.Bx.get, nth, St.stp, Ef.stp, lgs, setE, applyU, delO, newN, Option.getD_some, List.length_cons, List.length_nil, List.mem_cons, List.not_mem_nil, Bool.and_self, Bool.false_eq_true, cond_true, ↓reduceIte, true_and, and_self, or_false, not_false_eq_true, forall_const, implies_true, eq_self, Nat.reduceAdd, Nat.reduceEqDiff, Nat.zero_add, Nat.succ_ne_self, Nat.reduceLT]
  repeat' first
      | (first
          | refine TR.p hP (by first | fail) (by repeat' first | exact trivial | (intro _; assumption) | apply And.intro) ?_
          | refine TR.gp hP rfl (fun _ => by first | fail) (fun _ => by repeat' first | exact trivial | (intro _; assumption) | apply And.intro) ?_
          | refine TR.pv hP rfl (by first | fail) trivial (by repeat' first | exact trivial | (intro _; assumption) | apply And.intro) ?_
         try simp only [↓evSo_some, vcC_seq, vcC_reg, vcC_drw, vcC_skip, vcC_cond, vcC_block, vcC_exit, vcC_ret, vcC_bad, seqK_nrm, seqK_exit, seqK_ret, blkK_nrm, blkK_exit, blkK_ret, lopK_exit, lopK_ret, nrmK_app, drwK_app, initE, vcR_nil, vcR_n, vcR_s, isCall, makes, hasU, slK, newOf, opR, binI, pickV, evS, evV, evX, evSs, evVs, evParts, evPartsS, fillV, catV, gOf, Go.Bx.get, Go.Bx.own?, cellsV, isCell, cut, cutD, nth, nthD, dropV, takeV, dropD, takeDV, putV, toDs, St.stp, Ef.stp, Stp.lg, lgs, setE, applyU, setO, delO, newN, keysO, callU, Ef.bad, Option.getD_some, Option.getD_none, Option.map_some, Option.map_none, List.all_cons, List.all_nil, List.map_cons, List.map_nil, List.append_nil, List.nil_append, List.cons_append, List.length_cons, List.length_nil, List.mem_cons, List.not_mem_nil, Bool.and_true, Bool.true_and, Bool.and_self, Bool.not_true, Bool.not_false, Bool.or_self, Bool.or_false, Bool.false_or, Bool.false_eq_true, Bool.true_eq_false, Bool.cond_true_left, Bool.cond_false_right, cond_true, cond_false, reduceCtorEq, ↓reduceIte, if_true, if_false, true_and, and_true, and_self, false_and, and_false, or_false, false_or, not_false_eq_true, not_true_eq_false, forall_const, true_implies, false_implies, implies_true, imp_self, eq_self, ne_eq, Nat.reduceAdd, Nat.reduceSub, Nat.reduceMul, Nat.reduceLeDiff, Nat.reduceEqDiff, Nat.zero_add, Nat.add_zero, Nat.le_refl, Nat.succ_ne_self, Nat.one_ne_zero, Nat.zero_ne_one, Int.toNat_natCast, litRow, List.drop_succ_cons, List.drop_zero, List.take_succ_cons, List.take_zero, pubE, pubV, pubL, pubO, eqS, eqB, Nat.reduceLT, Nat.not_lt_zero, Nat.sub_zero, decide_true, decide_false, true_or, or_true, Int.le_refl, Int.cast_ofNat_Int, Int.reduceToNat, Int.reduceLT, Int.reduceLE, beq_self_eq_true, Nat.mul_one, Nat.one_mul, Nat.zero_mul])
      | refine And.intro (fun h => ?_) (fun h => ?_)
      | refine And.intro (by first | omega | (simp only [maxLen, decide_eq_true_eq, decide_eq_false_iff_not] at *; omega)) ?_
      | refine And.intro rfl ?_
      | fail
  · exact RetK.pure (by simp only [rs6, ressS, resS, and_self]) (by (simp only [rs6, retV, resV, Go.Bx.get, ↓reduceIte, eq_self, VLe_bool, Go.Bx.get, ↓reduceIte, eq_self]) <;> (first | simp [bears_rev]))
  have h2 : (bearsT t l).2 = 0 := by simpa using h
  have h2r : (bearsT t l.reverse).2 = 0 := by rw [bears_rev]; exact h2
  have hs := bears_sum h2
  have hsr := bears_sum h2r
  have hr := roomT_eq t
  rw [sum_rev] at hsr
  refine vcC.loop (X := Nat × Int) (fun x => ⟨[(1, .d (slX l)), (2, .own 2 0), (5, .d (.bool true)), (7, .d (.int .i64 x.2)), (9, .d (slK .i64 (bearsT t l).1)), (11, .d (slK .i64 (bearsT t l.reverse).1)), (12, .d (.int .i64 0)), (13, .d (.int .i64 x.1))], [(2, .fix (cT t))], [2]⟩)
    (fun x => x.1 ≤ l.length ∧ withR t 0 l = withR t x.2 (l.drop x.1)) (fun x => l.length - x.1) (0, 0) ⟨Nat.zero_le _, rfl⟩ (Wk.of [] hfn rfl (by simp only [slX, h2r, EnvLe, VLe_refl, slK, Go.Bx.get, ↓reduceIte, and_self, eq_self, Nat.reduceEqDiff, Nat.succ_ne_self, Int.cast_ofNat_Int]) (by simp only [cT, OwnLe, OLe_refl, exists_eq_left', Option.some.injEq, Go.Bx.own?, ↓reduceIte, and_self, eq_self])) ?_
  rintro ⟨k, n⟩ ⟨hk, he⟩
  simp only at hk he
  simp only [slX, cT, vcC_seq, vcC_reg, vcC_drw, vcC_skip, vcC_cond, vcC_block, vcC_exit, seqK_nrm, seqK_exit, blkK_exit, lopK_exit, nrmK_app, vcR_nil, vcR_n, vcR_s, isCall, makes, hasU, slK, newOf, opR, binI, pickV, evS, evV, evX, gOf, Go.Bx.get, Go.Bx.own?, cut, cutD, dropV, takeV, dropD, takeDV, St.stp, Ef.stp, Stp.lg, lgs, setE, applyU, newN, Option.getD_some, List.map_nil, List.append_nil, List.nil_append, List.cons_append, List.length_cons, List.length_nil, List.mem_cons, List.not_mem_nil, Bool.and_self, Bool.false_eq_true, cond_true, ↓reduceIte, true_and, and_true, and_self, or_false, not_false_eq_true, forall_const, implies_true, eq_self, Nat.reduceAdd, Nat.reduceEqDiff, Nat.zero_add, Nat.le_refl, Nat.succ_ne_self, Int.toNat_natCast, beq_self_eq_true]
  refine ⟨fun h3 => ?_, fun h3 => ?_⟩
  · have hlt : k < l.length := by have := of_decide_eq_true h3; omega
    obtain ⟨x, hd, hg, hm, hat⟩ := drop_at hlt
    simp only [hg]
    rw [hd, withR] at he
    repeat' first
        | (first
            | refine TR.p hP (by first | exact s23 t x | exact s18 t x.amt) (by repeat' first | exact trivial | (intro _; assumption) | apply And.intro) ?_
            | refine TR.gp hP rfl (fun _ => by first | exact s23 t x | exact s18 t x.amt) (fun _ => by repeat' first | exact trivial | (intro _; assumption) | apply And.intro) ?_
            | refine TR.pv hP rfl (by first | exact s23 t x | exact s18 t x.amt) trivial (by repeat' first | exact trivial | (intro _; assumption) | apply And.intro) ?_
           try simp only [hg, vcC_reg, vcC_drw, vcC_skip, vcC_cond, seqK_nrm, blkK_nrm, nrmK_app, drwK_app, vcR_nil, vcR_n, isCall, makes, newOf, opR, binI, evS, evV, evX, Go.Bx.get, Go.Bx.own?, cut, cutD, nthD, dropV, takeV, dropD, St.stp, Ef.stp, Stp.lg, lgs, setE, applyU, newN, List.map_nil, List.append_nil, List.nil_append, List.cons_append, List.length_cons, List.length_nil, Bool.false_eq_true, ↓reduceIte, true_and, and_true, and_self, eq_self, Nat.reduceAdd, Nat.reduceLeDiff, Nat.reduceEqDiff, Nat.zero_add, Nat.le_refl, Nat.succ_ne_self, Int.toNat_natCast])
        | refine And.intro (fun h => ?_) (fun h => ?_)
        | refine And.intro (by first | omega | (simp only [decide_eq_true_eq, decide_eq_false_iff_not] at *; omega)) ?_
        | refine And.intro rfl ?_
        | fail
    · rw [if_pos h] at he
      exact lopK.on (k + 1, IntKind.i64.wrap (n + partT t x.amt)) ⟨hlt, he⟩ (by simp only; omega) (Wk.of [] hfn rfl (by (simp only [EnvLe, VLe_refl, VLe_int, Go.Bx.get, ↓reduceIte, true_and, and_true, eq_self, Nat.reduceEqDiff, Nat.succ_ne_self]) <;> (first | exact wS (by omega) | (rw [List.length_append]; exact wS (by omega)) | assumption)) (by simp only [OwnLe, OLe_refl, exists_eq_left', Option.some.injEq, Go.Bx.own?, ↓reduceIte, and_self, eq_self]))
    · rw [if_neg (by simp [h])] at he
      exact lopK.on (k + 1, n) ⟨hlt, he⟩ (by simp only; omega) (Wk.of [] hfn rfl (by (simp only [EnvLe, VLe_refl, VLe_int, Go.Bx.get, ↓reduceIte, true_and, and_true, eq_self, Nat.reduceEqDiff, Nat.succ_ne_self]) <;> (first | exact wS (by omega) | (rw [List.length_append]; exact wS (by omega)) | assumption)) (by simp only [OwnLe, OLe_refl, exists_eq_left', Option.some.injEq, Go.Bx.own?, ↓reduceIte, and_self, eq_self]))
  · have hkl : k = l.length := by have := of_decide_eq_false h3; omega
    rw [hkl, List.drop_length, withR, withR_eq t l 0 (by omega) (by omega)] at he
    repeat' first
        | (first
            | refine TR.p hP (by first | exact s22 _ (by omega) | exact s20 t) (by repeat' first | exact trivial | (intro _; assumption) | apply And.intro) ?_
            | refine TR.gp hP rfl (fun _ => by first | exact s22 _ (by omega) | exact s20 t) (fun _ => by repeat' first | exact trivial | (intro _; assumption) | apply And.intro) ?_
            | refine TR.pv hP rfl (by first | exact s22 _ (by omega) | exact s20 t) trivial (by repeat' first | exact trivial | (intro _; assumption) | apply And.intro) ?_
           try simp only [vcC_ret, seqK_nrm, drwK_app, vcR_nil, vcR_n, vcR_s, isCall, makes, hasU, newOf, opR, binI, pickV, evS, evV, evX, gOf, Go.Bx.get, Go.Bx.own?, cut, dropV, takeV, St.stp, Ef.stp, Stp.lg, lgs, setE, applyU, newN, Option.getD_some, List.map_nil, List.append_nil, List.nil_append, List.cons_append, List.length_cons, List.length_nil, List.mem_cons, List.not_mem_nil, Bool.true_and, Bool.and_self, Bool.false_eq_true, Bool.cond_false_right, cond_true, ↓reduceIte, true_and, and_true, and_self, or_false, not_false_eq_true, forall_const, implies_true, imp_self, eq_self, Nat.reduceAdd, Nat.reduceEqDiff, Nat.zero_add, Nat.le_refl, Nat.succ_ne_self])
        | refine And.intro (fun h => ?_) (fun h => ?_)
        | refine And.intro (by first | omega | (simp only [decide_eq_false_iff_not] at *; omega)) ?_
        | refine And.intro rfl ?_
        | fail
    all_goals exact RetK.pure (by simp only [rs6, ressS, resS, and_self]) (by (simp only [rs6, retV, resV, Go.Bx.get, ↓reduceIte, eq_self, VLe_bool, Go.Bx.get, ↓reduceIte, eq_self]) <;> (first | rw [hs.2.2.1, hsr.2.2.1, hs.1, hsr.1, ← he]; simp))

/-! Two layers, one upon the other. -/
def stA (h w : Int) : Tr := ⟨1, 2, 1, 2, 0, h, w, 100, 255⟩
def stL (v : Int) : Ls := ⟨1, 0, 1, 0, v.tmod 20000000000⟩
theorem stA_right {h w : Int} (h0 : 0 ≤ h ∧ h ≤ 1000000000000000) (h1 : 1 ≤ w ∧ w ≤ 1000000000000000) : rightT (stA h w) = true := by
  have e : manyR 1 2 = 1 := by decide +kernel
  simp only [rightT, stA, e]
  simp [inB]
  omega
theorem stL_fine {v : Int} (h0 : 0 ≤ v) : lossX (stL v) = true ∧ 0 ≤ v.tmod 20000000000 ∧ v.tmod 20000000000 < 20000000000 := by
  have h1 := Int.tmod_nonneg 20000000000 h0
  have h2 := Int.tmod_lt_of_pos v (show (0 : Int) < 20000000000 by omega)
  refine ⟨?_, h1, h2⟩
  rw [lossX_iff]
  simp only [stL]
  omega
theorem stP {h w v : Int} (h0 : 0 ≤ h ∧ h ≤ 1000000000000000) (h1 : 1 ≤ w ∧ w ≤ 1000000000000000) (hv : 0 ≤ v) : partX (stA h w) (stL v) = if h < v.tmod 20000000000 then min w (v.tmod 20000000000 - h) else 0 := by
  have hr := stA_right h0 h1
  have hl := stL_fine hv
  have ht : takesT (stA h w) (stL v) = true := by
    simp only [takesT, hr, hl.1, Bool.true_and, Bool.and_eq_true]
    exact ⟨show inS 1 2 1 = true by decide +kernel, show bitB 255 0 = true by decide +kernel⟩
  have hh : highT (stA h w) = true := by rw [highT, hr]; rfl
  have e1 : (stL v).amt = v.tmod 20000000000 := rfl
  have e2 : (stA h w).att = h := rfl
  have e3 : (stA h w).wid = w := rfl
  rw [partX, if_pos ht, partT_eq _ (by omega) (by omega), e1, e2, e3]
  simp only [hh, true_and]
theorem deal_all : ∀ (ps : List Int) (left : Int), (∀ p, p ∈ ps → 0 ≤ p) → ps.sum ≤ left → deal left ps = ps
  | [], _, _, _ => rfl
  | p :: r, left, hp, hs => by
    have h0 := hp p (by simp)
    have h1 := (deal_sum r 0 (by omega) (fun q hq => hp q (by simp [hq]))).2
    simp only [List.sum_cons] at hs
    rw [deal, Int.min_eq_left (by omega), deal_all r _ (fun q hq => hp q (by simp [hq])) (by omega)]
theorem sum_most (w : Int) (hw : 0 ≤ w) : ∀ (ps : List Int), (∀ p, p ∈ ps → p ≤ w) → ps.sum ≤ w * ps.length
  | [], _ => by simp
  | p :: r, hp => by
    have h0 := hp p (by simp)
    have ih := sum_most w hw r (fun q hq => hp q (by simp [hq]))
    have e : w * ((r.length + 1 : Nat) : Int) = w * r.length + w := by rw [Int.natCast_add, Int.mul_add]; simp
    simp only [List.sum_cons, List.length_cons]
    omega
theorem stB {h w : Int} {l : List Int} (h0 : 0 ≤ h ∧ h ≤ 1000000000000000) (h1 : 1 ≤ w ∧ w ≤ 1000000000000000) (hl : l.length ≤ 100) (hp : ∀ v, v ∈ l → 0 ≤ v) :
    bearsT (stA h w) (l.map stL) = (l.map (fun v => partX (stA h w) (stL v)), 0) := by
  have hr := stA_right h0 h1
  have hh : highT (stA h w) = true := by rw [highT, hr]; rfl
  have h2 : (bearsT (stA h w) (l.map stL)).2 = 0 := by
    unfold bearsT
    rw [if_neg, if_neg]
    · simp; omega
    · rw [hr]
      simp only [Bool.not_true, Bool.false_or, Bool.or_eq_true, bne_iff_ne, List.any_eq_true, Bool.not_eq_true', not_or]
      refine ⟨fun e => e rfl, ?_⟩
      rintro ⟨x, hx, hx2⟩
      obtain ⟨v, hv, rfl⟩ := List.mem_map.1 hx
      rw [(stL_fine (hp v hv)).1] at hx2
      cases hx2
  have hok := bearsT_ok h2
  have hro : roomT (stA h w) = w * 101 := by
    rw [(roomT_eq _).1, if_pos hh]; rfl
  have e : bearsT (stA h w) (l.map stL) = ((bearsT (stA h w) (l.map stL)).1, (bearsT (stA h w) (l.map stL)).2) := rfl
  rw [e, h2, hok.1, List.map_map]
  have hnn : ∀ p, p ∈ l.map (partX (stA h w) ∘ stL) → 0 ≤ p ∧ p ≤ w := by
    intro p hp2
    obtain ⟨v, hv, rfl⟩ := List.mem_map.1 hp2
    simp only [Function.comp]
    rw [stP h0 h1 (hp v hv)]
    split <;> omega
  rw [deal_all _ _ (fun p hq => (hnn p hq).1)]
  · rfl
  · have := sum_most w (by omega) _ (fun p hq => (hnn p hq).2)
    rw [List.length_map] at this
    have h3 : w * (l.length : Int) ≤ w * 101 := Int.mul_le_mul_of_nonneg_left (by omega) (by omega)
    omega
theorem s7 (hh lo hi ag : Int) (l : List Int) (h1 : 0 ≤ hh ∧ hh ≤ 4294967295) (h2 : 0 ≤ lo ∧ lo ≤ 4294967295) (h3 : 0 ≤ hi ∧ hi ≤ 4294967295) (h4 : 0 ≤ ag ∧ ag ≤ 255) (hl : l.length ≤ 9223372036854775807) (hp : ∀ v, v ∈ l → 0 ≤ v) :
    Ctr Try.prog 7 [.d (.int .u32 hh), .d (.int .u32 lo), .d (.int .u32 hi), .d (.int .u8 ag), .d (slK .u64 l)] [] (.d (.bool true)) [] [] := by
  have e1 : IntKind.i64.wrap hh = hh := wI (by omega)
  have e2 : IntKind.i64.wrap lo = lo := wI (by omega)
  have e3 : IntKind.i64.wrap hi = hi := wI (by omega)
  have e4 : IntKind.i64.wrap (1 + lo) = 1 + lo := wI (by omega)
  have e5 : IntKind.i64.wrap (1 + hi) = 1 + hi := wI (by omega)
  have e6 : IntKind.i64.wrap (hh + (1 + lo)) = hh + (1 + lo) := wI (by omega)
  have e7 : IntKind.i64.wrap ((1 + lo) + (1 + hi)) = (1 + lo) + (1 + hi) := wI (by omega)
  refine pure7 (by simp) rfl rfl ?_
  intro c hP hfn
  simp only [c7, vcC_seq, vcC_reg, seqK_nrm, nrmK_app, initE, vcR_nil, vcR_n, isCall, makes, slK, newOf, opR, evS, evV, evX, St.stp, Ef.stp, lgs, setE, applyU, newN, Bool.false_eq_true, ↓reduceIte, true_and, eq_self, Nat.reduceAdd, Nat.zero_add]
  repeat' first
      | (first
          | refine TR.p hP (by first | exact s14) (by repeat' first | exact trivial | (intro _; assumption) | apply And.intro) ?_
          | refine TR.gp hP rfl (fun _ => by first | exact s14) (fun _ => by repeat' first | exact trivial | (intro _; assumption) | apply And.intro) ?_
          | refine TR.pv hP rfl (by first | exact s14) trivial (by repeat' first | exact trivial | (intro _; assumption) | apply And.intro) ?_
         try simp only [e1, e2, e3, e4, e5, e6, e7, vcC_seq, vcC_reg, vcC_skip, vcC_cond, vcC_block, vcC_ret, seqK_nrm, seqK_ret, nrmK_app, vcR_nil, vcR_n, isCall, makes, newOf, opR, binI, evS, evV, evX, evParts, evPartsS, fillV, Go.Bx.get, Go.Bx.own?, cellsV, isCell, cut, nth, dropV, takeV, putV, St.stp, Ef.stp, lgs, setE, applyU, setO, newN, Option.getD_some, List.all_cons, List.all_nil, List.length_cons, List.length_nil, List.mem_cons, List.not_mem_nil, Bool.and_self, Bool.false_eq_true, reduceCtorEq, ↓reduceIte, true_and, and_self, or_false, not_false_eq_true, eq_self, Nat.reduceAdd, Nat.reduceLeDiff, Nat.reduceEqDiff, Nat.zero_add, Nat.le_refl, Nat.succ_ne_self, Nat.zero_ne_one, decide_true])
      | refine And.intro (fun h => ?_) (fun h => ?_)
      | refine And.intro (by first | omega | (simp only [maxLen, decide_eq_true_eq, decide_eq_false_iff_not] at *; omega)) ?_
      | refine And.intro rfl ?_
      | fail
  · exact RetK.pure (by simp only [rs7, ressS, resS, and_self]) (by (simp only [rs7, retV, resV, Go.Bx.get, ↓reduceIte, eq_self, VLe_refl, Go.Bx.get, ↓reduceIte, eq_self]) <;> (first | simp))
  have h100 : l.length ≤ 100 := by have := of_decide_eq_false h; omega
  clear h
  refine vcC.loop (X := List Ls) (fun x => ⟨[(15, .osl 1000), (3, .d (.int .u8 ag)), (4, .d (slK .u64 l)), (11, .d (.bool true)), (12, .own 12 0), (13, .own 13 0), (14, .own 14 0), (16, .d (.int .i64 x.length))],
        [(1000, .row 38 5 x.length (fun i => [.int .i64 (x.getD i default).cl, .int .i64 (x.getD i default).ev, .int .i64 (x.getD i default).day, .int .i64 (x.getD i default).per, .int .i64 (x.getD i default).amt])),
         (12, .fix (cT (stA hh (1 + lo)))), (13, .fix (cT (stA (hh + (1 + lo)) (1 + hi)))), (14, .fix (cT (stA hh ((1 + lo) + (1 + hi)))))], [1000, 12, 13, 14]⟩)
      (fun x => x.length ≤ l.length ∧ l.map stL = x ++ (l.drop x.length).map stL) (fun x => l.length - x.length) [] ⟨Nat.zero_le _, rfl⟩
      ((Wk.row0 (s := 15) (k := 1000) (e := 38) (sz := 5) (f' := fun _ => []) rfl rfl (by simp)).trans (Wk.of _ hfn rfl (by (simp only [EnvLe, VLe_refl, slK, Go.Bx.get, List.length_nil, reduceCtorEq, ↓reduceIte, and_self, eq_self, Nat.reduceEqDiff, Nat.succ_ne_self, Int.cast_ofNat_Int]) <;> (first | exact wS (by omega) | (rw [List.length_append]; exact wS (by omega)) | assumption)) (by simp only [cT, stA, OwnLe, OLe_refl, exists_eq_left', Option.some.injEq, Go.Bx.own?, setO, List.length_nil, ↓reduceIte, and_true, and_self, eq_self, Nat.reduceEqDiff]; exact OLe.row rfl (fun i hi => absurd hi (Nat.not_lt_zero i))))) ?_
  rintro dn ⟨hk, he⟩
  simp only [cT, stA, vcC_seq, vcC_reg, vcC_skip, vcC_cond, vcC_block, vcC_exit, seqK_nrm, seqK_exit, blkK_exit, lopK_exit, nrmK_app, vcR_nil, vcR_n, isCall, makes, slK, newOf, opR, binI, evS, evV, evX, Go.Bx.get, Go.Bx.own?, cut, cutD, nthD, dropV, takeV, St.stp, Ef.stp, lgs, setE, applyU, newN, List.length_cons, List.length_nil, Bool.false_eq_true, ↓reduceIte, true_and, and_true, and_self, eq_self, ne_eq, Nat.reduceAdd, Nat.reduceEqDiff, Nat.zero_add, Nat.le_refl, Nat.succ_ne_self, Int.toNat_natCast]
  refine ⟨fun h5 => ?_, fun h5 => ?_⟩
  · have hlt : dn.length < l.length := by have := of_decide_eq_true h5; omega
    obtain ⟨v, hd, hg, hm, hat⟩ := drop_at hlt
    have hv := stL_fine (hp v hm)
    have e8 : IntKind.i64.wrap (v.tmod 20000000000) = v.tmod 20000000000 := wI (by omega)
    simp only [hg]
    rw [hd, List.map_cons] at he
    repeat' first
        | (first
            | refine TR.p hP (by first | exact s24 ..) (by repeat' first | exact trivial | (intro _; assumption) | apply And.intro) ?_
            | refine TR.gp hP rfl (fun _ => by first | exact s24 ..) (fun _ => by repeat' first | exact trivial | (intro _; assumption) | apply And.intro) ?_
            | refine TR.pv hP rfl (by first | exact s24 ..) trivial (by repeat' first | exact trivial | (intro _; assumption) | apply And.intro) ?_
           try simp only [vX, cX', e8, vcC_reg, seqK_nrm, blkK_nrm, nrmK_app, vcR_nil, vcR_n, isCall, makes, newOf, opR, binI, evS, evV, evX, evSs, evVs, catV, Go.Bx.get, Go.Bx.own?, cellsV, isCell, toDs, St.stp, Ef.stp, lgs, setE, applyU, setO, delO, newN, Option.getD_some, Option.map_some, List.all_cons, List.all_nil, List.append_nil, List.length_cons, List.length_nil, List.mem_cons, List.not_mem_nil, Bool.and_self, Bool.false_eq_true, ↓reduceIte, true_and, and_true, and_self, or_false, not_false_eq_true, forall_const, eq_self, Nat.reduceAdd, Nat.reduceEqDiff, Nat.zero_add, Nat.succ_ne_self, litRow, Nat.reduceLT])
        | refine And.intro (fun h => ?_) (fun h => ?_)
        | refine And.intro (by first | omega | (simp only [maxLen, decide_eq_true_eq] at *; omega)) ?_
        | refine And.intro rfl ?_
        | fail
    exact lopK.on (dn ++ [stL v]) ⟨by simp; omega, by rw [he]; simp⟩ (by simp; omega) (Wk.snoc (k := 69) _ hfn rfl rfl rfl rfl (OLe.app1 (cells := fun n : Ls => [.int .i64 n.cl, .int .i64 n.ev, .int .i64 n.day, .int .i64 n.per, .int .i64 n.amt]) (fun i hi => by simp only [if_pos hi]) (by simp [stL])) (by (simp only [EnvLe, VLe_refl, VLe_int, Go.Bx.get, ↓reduceIte, true_and, and_true, eq_self, Nat.reduceEqDiff, Nat.succ_ne_self]) <;> (first | exact wS (by omega) | (rw [List.length_append]; exact wS (by omega)) | assumption)) (by simp only [OwnLe, OLe_refl, exists_eq_left', Option.some.injEq, Go.Bx.own?, ↓reduceIte, and_self, eq_self, Nat.reduceEqDiff]) (by simp) (by simp only [EnvLe, VLe_refl, Go.Bx.get, ↓reduceIte, and_self, eq_self, Nat.reduceEqDiff, Nat.succ_ne_self]) (by simp only [OwnLe, OLe_refl, exists_eq_left', Option.some.injEq, Go.Bx.own?, setO, delO, ↓reduceIte, and_self, eq_self, Nat.reduceEqDiff]))
  have hdl : dn.length = l.length := by have := of_decide_eq_false h5; omega
  rw [hdl, List.drop_length, List.map_nil, List.append_nil] at he
  subst he
  clear hk h5
  have bA := stB (h := hh) (w := 1 + lo) (l := l) (by omega) (by omega) h100 hp
  have bB := stB (h := hh + (1 + lo)) (w := 1 + hi) (l := l) (by omega) (by omega) h100 hp
  have bC := stB (h := hh) (w := 1 + lo + (1 + hi)) (l := l) (by omega) (by omega) h100 hp
  repeat' first
      | (first
          | refine TR.p hP (by first | fail) (by repeat' first | exact trivial | (intro _; assumption) | apply And.intro) ?_
          | refine TR.gp hP rfl (fun _ => by first | fail) (fun _ => by repeat' first | exact trivial | (intro _; assumption) | apply And.intro) ?_
          | refine TR.pv hP rfl (by first | fail) trivial (by repeat' first | exact trivial | (intro _; assumption) | apply And.intro) ?_
         try simp only [↓evSo_some, vcC_seq, vcC_reg, vcC_drw, vcC_skip, vcC_cond, vcC_block, vcC_exit, vcC_ret, vcC_bad, seqK_nrm, seqK_exit, seqK_ret, blkK_nrm, blkK_exit, blkK_ret, lopK_exit, lopK_ret, nrmK_app, drwK_app, initE, vcR_nil, vcR_n, vcR_s, isCall, makes, hasU, slK, newOf, opR, binI, pickV, evS, evV, evX, evSs, evVs, evParts, evPartsS, fillV, catV, gOf, Go.Bx.get, Go.Bx.own?, cellsV, isCell, cut, cutD, nth, nthD, dropV, takeV, dropD, takeDV, putV, toDs, St.stp, Ef.stp, Stp.lg, lgs, setE, applyU, setO, delO, newN, keysO, callU, Ef.bad, Option.getD_some, Option.getD_none, Option.map_some, Option.map_none, List.all_cons, List.all_nil, List.map_cons, List.map_nil, List.append_nil, List.nil_append, List.cons_append, List.length_cons, List.length_nil, List.mem_cons, List.not_mem_nil, Bool.and_true, Bool.true_and, Bool.and_self, Bool.not_true, Bool.not_false, Bool.or_self, Bool.or_false, Bool.false_or, Bool.false_eq_true, Bool.true_eq_false, Bool.cond_true_left, Bool.cond_false_right, cond_true, cond_false, reduceCtorEq, ↓reduceIte, if_true, if_false, true_and, and_true, and_self, false_and, and_false, or_false, false_or, not_false_eq_true, not_true_eq_false, forall_const, true_implies, false_implies, implies_true, imp_self, eq_self, ne_eq, Nat.reduceAdd, Nat.reduceSub, Nat.reduceMul, Nat.reduceLeDiff, Nat.reduceEqDiff, Nat.zero_add, Nat.add_zero, Nat.le_refl, Nat.succ_ne_self, Nat.one_ne_zero, Nat.zero_ne_one, Int.toNat_natCast, litRow, List.drop_succ_cons, List.drop_zero, List.take_succ_cons, List.take_zero, pubE, pubV, pubL, pubO, eqS, eqB, Nat.reduceLT, Nat.not_lt_zero, Nat.sub_zero, decide_true, decide_false, true_or, or_true, Int.le_refl, Int.cast_ofNat_Int, Int.reduceToNat, Int.reduceLT, Int.reduceLE, beq_self_eq_true, Nat.mul_one, Nat.one_mul, Nat.zero_mul])
      | refine And.intro (fun h => ?_) (fun h => ?_)
      | refine And.intro (by first | omega | (simp only [maxLen, decide_eq_true_eq, decide_eq_false_iff_not] at *; omega)) ?_
      | refine And.intro rfl ?_
      | fail
  refine TR.wk _ (Wk.pub 1000 rfl) ?_
  simp only [delO, ↓reduceIte, eq_self, pubE, pubV, pubL, pubO]
  have cA := s15 (stA hh (1 + lo)) (l.map stL) (by simp; omega)
  have cB := s15 (stA (hh + (1 + lo)) (1 + hi)) (l.map stL) (by simp; omega)
  have cC := s15 (stA hh (1 + lo + (1 + hi))) (l.map stL) (by simp; omega)
  rw [bA] at cA; rw [bB] at cB; rw [bC] at cC
  simp only [slX, slK, List.length_map] at cA cB cC ⊢
  repeat' first
      | (first
          | refine TR.p hP (by first | exact cA | exact cB | exact cC) (by repeat' first | exact trivial | (intro _; assumption) | apply And.intro) ?_
          | refine TR.gp hP rfl (fun _ => by first | exact cA | exact cB | exact cC) (fun _ => by repeat' first | exact trivial | (intro _; assumption) | apply And.intro) ?_
          | refine TR.pv hP rfl (by first | exact cA | exact cB | exact cC) trivial (by repeat' first | exact trivial | (intro _; assumption) | apply And.intro) ?_
         try simp only [bne_self_eq_false, vcC_seq, vcC_reg, vcC_skip, vcC_cond, vcC_block, vcC_ret, seqK_nrm, seqK_ret, nrmK_app, vcR_nil, vcR_n, vcR_s, isCall, makes, hasU, newOf, opR, binI, pickV, evS, evV, evX, gOf, Go.Bx.get, Go.Bx.own?, cut, nth, dropV, takeV, St.stp, Ef.stp, lgs, setE, applyU, newN, Option.getD_some, List.length_cons, List.length_nil, List.mem_cons, List.not_mem_nil, Bool.and_self, Bool.not_false, Bool.false_eq_true, cond_false, ↓reduceIte, true_and, and_self, or_false, not_false_eq_true, forall_const, false_implies, implies_true, eq_self, Nat.reduceAdd, Nat.reduceEqDiff, Nat.zero_add, Nat.le_refl, Nat.succ_ne_self, Nat.reduceLT])
      | refine And.intro (fun h => ?_) (fun h => ?_)
      | refine And.intro (by first | omega | (simp only [maxLen, decide_eq_true_eq, decide_eq_false_iff_not] at *; omega)) ?_
      | refine And.intro rfl ?_
      | fail
  have hh1 : ∀ w, 1 ≤ w ∧ w ≤ 1000000000000000 → highT (stA hh w) = true := fun w hw => by rw [highT, stA_right (by omega) hw]; rfl
  refine vcC.loop (X := Nat) (fun k => ⟨[(3, .d (.int .u8 ag)), (4, .d (slK .u64 l)), (11, .d (.bool true)), (12, .own 12 0), (15, .d (slX (l.map stL))), (17, .d (slK .i64 (l.map (fun v => partX (stA hh (1 + lo)) (stL v))))), (19, .d (slK .i64 (l.map (fun v => partX (stA (hh + (1 + lo)) (1 + hi)) (stL v))))), (21, .d (slK .i64 (l.map (fun v => partX (stA hh (1 + lo + (1 + hi))) (stL v))))), (23, .d (.int .i64 k))],
        [(12, .fix (cT (stA hh (1 + lo))))], [12]⟩)
      (fun k => k ≤ l.length) (fun k => l.length - k) 0 (Nat.zero_le _) (Wk.of _ hfn rfl (by simp only [slX, List.length_map, EnvLe, VLe_refl, slK, Go.Bx.get, ↓reduceIte, and_self, eq_self, Nat.reduceEqDiff, Nat.succ_ne_self, Int.cast_ofNat_Int]) (by simp only [cT, stA, OwnLe, OLe_refl, exists_eq_left', Option.some.injEq, Go.Bx.own?, ↓reduceIte, and_self, eq_self])) ?_
  rintro k hk
  simp only [slX, cT, stA, List.length_map, vcC_seq, vcC_reg, vcC_drw, vcC_skip, vcC_cond, vcC_block, vcC_exit, vcC_ret, seqK_nrm, seqK_exit, seqK_ret, blkK_nrm, blkK_exit, blkK_ret, lopK_exit, lopK_ret, nrmK_app, drwK_app, vcR_nil, vcR_n, vcR_s, isCall, makes, hasU, slK, newOf, opR, binI, pickV, evS, evV, evX, gOf, Go.Bx.get, Go.Bx.own?, cellsV, cut, cutD, nth, nthD, dropV, takeV, dropD, putV, St.stp, Ef.stp, Stp.lg, lgs, setE, applyU, setO, newN, Option.getD_some, List.map_nil, List.append_nil, List.nil_append, List.cons_append, List.length_cons, List.length_nil, List.mem_cons, List.not_mem_nil, Bool.true_and, Bool.false_eq_true, Bool.cond_true_left, Bool.cond_false_right, ↓reduceIte, true_and, and_true, and_self, or_false, not_false_eq_true, forall_const, implies_true, imp_self, eq_self, ne_eq, Nat.reduceAdd, Nat.reduceLeDiff, Nat.reduceEqDiff, Nat.zero_add, Nat.le_refl, Nat.succ_ne_self, Int.toNat_natCast]
  refine ⟨fun h5 => ?_, fun h5 => ?_⟩
  · have hlt : k < l.length := by have := of_decide_eq_true h5; omega
    obtain ⟨v, hd, hg, hm, hat⟩ := drop_at hlt
    have hv := stL_fine (hp v hm)
    have g1 : ∀ (f : Int → Int), (l.map f).getD k 0 = f v := fun f => by simp [hat]
    have g2 : (l.map stL).getD k default = stL v := by simp [hat]
    have p1 := stP (h := hh) (w := 1 + lo) (v := v) (by omega) (by omega) (hp v hm)
    have p2 := stP (h := hh + (1 + lo)) (w := 1 + hi) (v := v) (by omega) (by omega) (hp v hm)
    have p3 := stP (h := hh) (w := 1 + lo + (1 + hi)) (v := v) (by omega) (by omega) (hp v hm)
    have p4 : (stL v).amt = v.tmod 20000000000 := rfl
    simp only [stA] at p1 p2 p3
    simp only [g1, g2, p1, p2, p3, p4]
    generalize v.tmod 20000000000 = u at *
    have b1 : 0 ≤ (if hh < u then min (1 + lo) (u - hh) else 0) ∧ (if hh < u then min (1 + lo) (u - hh) else 0) ≤ 20000000000 := by split <;> omega
    have b2 : 0 ≤ (if hh + (1 + lo) < u then min (1 + hi) (u - (hh + (1 + lo))) else 0) ∧ (if hh + (1 + lo) < u then min (1 + hi) (u - (hh + (1 + lo))) else 0) ≤ 20000000000 := by split <;> omega
    repeat' first
        | (first
            | refine TR.p hP (by first | fail) (by repeat' first | exact trivial | (intro _; assumption) | apply And.intro) ?_
            | refine TR.gp hP rfl (fun _ => by first | fail) (fun _ => by repeat' first | exact trivial | (intro _; assumption) | apply And.intro) ?_
            | refine TR.pv hP rfl (by first | fail) trivial (by repeat' first | exact trivial | (intro _; assumption) | apply And.intro) ?_
           try simp only [↓evSo_some, vcC_seq, vcC_reg, vcC_drw, vcC_skip, vcC_cond, vcC_block, vcC_exit, vcC_ret, vcC_bad, seqK_nrm, seqK_exit, seqK_ret, blkK_nrm, blkK_exit, blkK_ret, lopK_exit, lopK_ret, nrmK_app, drwK_app, initE, vcR_nil, vcR_n, vcR_s, isCall, makes, hasU, slK, newOf, opR, binI, pickV, evS, evV, evX, evSs, evVs, evParts, evPartsS, fillV, catV, gOf, Go.Bx.get, Go.Bx.own?, cellsV, isCell, cut, cutD, nth, nthD, dropV, takeV, dropD, takeDV, putV, toDs, St.stp, Ef.stp, Stp.lg, lgs, setE, applyU, setO, delO, newN, keysO, callU, Ef.bad, Option.getD_some, Option.getD_none, Option.map_some, Option.map_none, List.all_cons, List.all_nil, List.map_cons, List.map_nil, List.append_nil, List.nil_append, List.cons_append, List.length_cons, List.length_nil, List.mem_cons, List.not_mem_nil, Bool.and_true, Bool.true_and, Bool.and_self, Bool.not_true, Bool.not_false, Bool.or_self, Bool.or_false, Bool.false_or, Bool.false_eq_true, Bool.true_eq_false, Bool.cond_true_left, Bool.cond_false_right, cond_true, cond_false, reduceCtorEq, ↓reduceIte, if_true, if_false, true_and, and_true, and_self, false_and, and_false, or_false, false_or, not_false_eq_true, not_true_eq_false, forall_const, true_implies, false_implies, implies_true, imp_self, eq_self, ne_eq, Nat.reduceAdd, Nat.reduceSub, Nat.reduceMul, Nat.reduceLeDiff, Nat.reduceEqDiff, Nat.zero_add, Nat.add_zero, Nat.le_refl, Nat.succ_ne_self, Nat.one_ne_zero, Nat.zero_ne_one, Int.toNat_natCast, litRow, List.drop_succ_cons, List.drop_zero, List.take_succ_cons, List.take_zero, pubE, pubV, pubL, pubO, eqS, eqB, Nat.reduceLT, Nat.not_lt_zero, Nat.sub_zero, decide_true, decide_false, true_or, or_true, Int.le_refl, Int.cast_ofNat_Int, Int.reduceToNat, Int.reduceLT, Int.reduceLE, beq_self_eq_true, Nat.mul_one, Nat.one_mul, Nat.zero_mul])
        | refine And.intro (fun h => ?_) (fun h => ?_)
        | refine And.intro (by first | omega | (simp only [decide_eq_true_eq] at *; omega)) ?_
        | refine And.intro rfl ?_
        | fail
    · exfalso
      rw [wI (by omega), wI (by omega)] at h
      simp only [Bool.or_eq_true, bne_iff_ne, Bool.and_eq_true, decide_eq_true_eq] at h
      (repeat' split at h) <;> omega
    · exact lopK.on (k + 1) hlt (by omega) (Wk.of _ hfn rfl (by simp only [EnvLe, VLe_refl, VLe_int, Go.Bx.get, ↓reduceIte, true_and, and_true, eq_self, Nat.reduceEqDiff]; exact wS (by omega)) (by simp only [OwnLe, OLe_refl, exists_eq_left', Option.some.injEq, Go.Bx.own?, ↓reduceIte, and_self, eq_self]))
  · have ht := Int.tmod_nonneg 101 h4.1
    have ht2 := Int.tmod_lt_of_pos ag (show (0 : Int) < 101 by omega)
    have e8 : IntKind.i64.wrap (ag.tmod 101) = ag.tmod 101 := wI (by omega)
    have hr : rightT ⟨1, 2, 1, 2, 0, hh, 1 + lo, ag.tmod 101, 255⟩ = true := by
      have e : manyR 1 2 = 1 := by decide +kernel
      simp only [rightT, e]
      simp [inB]
      omega
    have hro : roomT ⟨1, 2, 1, 2, 0, hh, 1 + lo, ag.tmod 101, 255⟩ = IntKind.i64.wrap ((1 + lo) * IntKind.i64.wrap (1 + ag.tmod 101)) := by
      rw [roomT, highT, hr]; rfl
    simp only [e8]
    repeat' first
        | (first
            | refine TR.p hP (by first | exact s20 ⟨1, 2, 1, 2, 0, hh, 1 + lo, ag.tmod 101, 255⟩) (by repeat' first | exact trivial | (intro _; assumption) | apply And.intro) ?_
            | refine TR.gp hP rfl (fun _ => by first | exact s20 ⟨1, 2, 1, 2, 0, hh, 1 + lo, ag.tmod 101, 255⟩) (fun _ => by repeat' first | exact trivial | (intro _; assumption) | apply And.intro) ?_
            | refine TR.pv hP rfl (by first | exact s20 ⟨1, 2, 1, 2, 0, hh, 1 + lo, ag.tmod 101, 255⟩) trivial (by repeat' first | exact trivial | (intro _; assumption) | apply And.intro) ?_
           try simp only [e8, vcC_ret, seqK_nrm, drwK_app, vcR_nil, vcR_n, vcR_s, isCall, makes, hasU, newOf, opR, binI, pickV, evS, evV, evX, gOf, Go.Bx.get, Go.Bx.own?, cut, nth, St.stp, Ef.stp, Stp.lg, lgs, setE, applyU, newN, Option.getD_some, List.map_nil, List.append_nil, List.nil_append, List.cons_append, List.length_cons, List.length_nil, List.mem_cons, List.not_mem_nil, Bool.and_self, Bool.false_eq_true, cond_true, ↓reduceIte, true_and, and_self, or_false, not_false_eq_true, forall_const, implies_true, eq_self, ne_eq, Nat.reduceAdd, Nat.reduceLeDiff, Nat.reduceEqDiff, Nat.zero_add, Nat.succ_ne_self])
        | refine And.intro (fun h => ?_) (fun h => ?_)
        | refine And.intro (by first | omega | (simp only [decide_eq_false_iff_not] at *; omega)) ?_
        | refine And.intro rfl ?_
        | fail
    all_goals exact RetK.pure (by simp only [rs7, ressS, resS, and_self]) (by (simp only [rs7, retV, resV, Go.Bx.get, ↓reduceIte, eq_self, VLe_bool, Go.Bx.get, ↓reduceIte, eq_self]) <;> (first | rw [hro]; simp))
end Go.Proofs.Ytolhfgjekomaaaa
