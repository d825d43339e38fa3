import Derived.Test.YtgeidjhobbndjaaP
namespace Go.Proofs.Ytgeidjhobbndjaa
open Go.Bx
set_option maxRecDepth 10000

theorem sum_le {B : Int} : ∀ {l : List Int}, (∀ x, x ∈ l → x ≤ B) → l.sum ≤ l.length * B
  | [], _ => by simp
  | p :: r, h => by
    have h1 := h p (by simp)
    have h2 := sum_le (l := r) (fun x hx => h x (by simp [hx]))
    rw [List.sum_cons, List.length_cons, Int.natCast_add, Int.add_mul]; omega
theorem split_twice {m b : Int} {l : List Int} (hl : l.length ≤ 300) (h1 : 1 ≤ b) (h2 : b ≤ 1000) (hx : ∀ x, x ∈ l → 0 ≤ x ∧ x ≤ 1099511627776) : splitR m (l.map (b * ·)) = splitR m l := by
  have hS0 := sum_nonneg (fun x h => (hx x h).1)
  have hS1 := sum_le (fun x h => (hx x h).2)
  have hS2 : l.sum ≤ 329853488332800 := by omega
  have hb1 : b * l.sum ≤ 1000 * 329853488332800 := Int.mul_le_mul h2 hS2 hS0 (by omega)
  have hb0 : 0 ≤ b * l.sum := Int.mul_nonneg (by omega) hS0
  have hnn : ∀ x, x ∈ l.map (b * ·) → 0 ≤ x := by
    intro x hxm
    obtain ⟨y, hy, rfl⟩ := List.mem_map.1 hxm
    exact Int.mul_nonneg (by omega) (hx y hy).1
  have hn := fun x h => (hx x h).1
  unfold splitR
  rw [List.length_map, sum_scale]
  by_cases c1 : m < 0 ∨ 2000 < l.length
  · rw [if_pos c1, if_pos c1]
  rw [if_neg c1, if_neg c1, if_neg (any_nonneg hnn), if_neg (any_nonneg hn)]
  by_cases c2 : 4000000000000000000 < l.sum ∨ 4000000000000000000 < m
  · rw [if_pos c2, if_pos (by omega)]
  rw [if_neg c2, if_neg (by omega)]
  by_cases c3 : l.sum = 0
  · rw [if_pos c3, if_pos (by rw [c3]; simp)]
  have c4 : 0 < b * l.sum := Int.mul_pos (by omega) (by omega)
  rw [if_neg c3, if_neg (by omega)]
  have d1 := deal2_eq (m := m) (S := b * l.sum) (by omega) c4 (by omega) (l.map (b * ·)) 0 (by omega) hnn (by rw [sum_scale]; omega)
  have d2 := deal2_eq (m := m) (S := l.sum) (by omega) (by omega) (by omega) l 0 (by omega) hn (by omega)
  have d3 := dealQ_scale (m := m) (S := l.sum) (k := b) (by omega) l 0
  rw [Int.mul_zero, Int.zero_ediv] at d1 d2
  rw [Int.mul_zero] at d3
  rw [d1, d2, d3]
theorem split_one {m b : Int} (h1 : 1 ≤ b) (h2 : b ≤ 1000) : splitR m [b] = if m < 0 then ([], 1) else if 4000000000000000000 < m then ([], 5) else ([m], 0) := by
  by_cases c1 : m < 0
  · rw [splitR, if_pos (.inl c1), if_pos c1]
  by_cases c2 : 4000000000000000000 < m
  · rw [splitR, if_neg (by simp; omega), if_neg (by simp; omega), if_pos (.inr c2), if_neg c1, if_pos c2]
  have ok : SOk m [b] := ⟨by omega, by omega, by simp, by simp; omega, by simp; omega, by simp; omega⟩
  rw [split_ok ok, if_neg c1, if_neg c2, dealQ, dealQ]
  simp [Int.mul_ediv_cancel m (show b ≠ 0 by omega)]

set_option maxHeartbeats 2000000 in
theorem f10 (m : Int) (l : List Int) (b : Int) (hm : m ≤ 9223372036854775807) (hl : l.length ≤ 9223372036854775807) (hx : ∀ x, x ∈ l → x ≤ 9223372036854775807) (hb : b ≤ 9223372036854775807) :
    Ctr Try.prog 10 [.d (.int .i64 m), .d (slK .i64 l), .d (.int .i64 b)] [] (.d (.bool true)) [] [] := by
  have c19 := s19 m l hm hl hx
  refine pure10 (by simp) rfl rfl ?_; intro c hP hfn; simp only [c10, vcC_seq, vcC_reg, vcC_skip, vcC_cond, vcC_block, seqK_nrm, nrmK_app, initE, vcR_nil, vcR_n, vcR_s, isCall, makes, hasU, slK, newOf, opR, binI, pickV, evS, evV, evX, gOf, Go.Bx.get, St.stp, Ef.stp, lgs, setE, applyU, newN, Option.getD_some, List.not_mem_nil, Bool.true_and, Bool.false_eq_true, Bool.cond_true_left, reduceCtorEq, ↓reduceIte, true_and, and_true, and_self, not_false_eq_true, forall_const, implies_true, imp_self, eq_self, Nat.reduceAdd, Nat.reduceEqDiff, Nat.zero_add, Nat.succ_ne_self, Nat.zero_ne_one]
  refine ⟨fun h => ?_, fun h => ?_⟩
  · repeat' first
        | (first
            | refine TR.p hP (by first | exact s14) (by repeat' first | exact trivial | (intro _; assumption) | apply And.intro) ?_
            | refine TR.gp hP rfl (fun _ => by first | exact s14) (fun _ => by repeat' first | exact trivial | (intro _; assumption) | apply And.intro) ?_
            | refine TR.pv hP rfl (by first | exact s14) trivial (by repeat' first | exact trivial | (intro _; assumption) | apply And.intro) ?_
           try simp only [vcC_ret, seqK_nrm, seqK_ret, nrmK_app, vcR_nil, vcR_n, isCall, makes, newOf, opR, evS, evV, evX, Go.Bx.get, St.stp, Ef.stp, lgs, setE, applyU, newN, Bool.false_eq_true, ↓reduceIte, true_and, eq_self])
        | refine And.intro (fun h => ?_) (fun h => ?_)
        | refine And.intro (by first | omega | (simp only [maxLen, decide_eq_true_eq, decide_eq_false_iff_not] at *; omega)) ?_
        | refine And.intro rfl ?_
        | fail
    all_goals exact RetK.pure (by simp only [rs10, ressS, resS, and_self]) (by (simp only [rs10, retV, resV, Go.Bx.get, ↓reduceIte, eq_self, VLe_refl, Go.Bx.get, ↓reduceIte, eq_self]) <;> (first | simp))
  have h0 : l.length ≤ 300 ∧ 1 ≤ b ∧ b ≤ 1000 := by
    simp only [Bool.or_eq_false_iff, decide_eq_false_iff_not] at h; omega
  clear h
  refine vcC.loop (X := List Int) (fun o => ⟨[(7, .osl 1000), (0, .d (.int .i64 m)), (1, .d (slK .i64 l)), (2, .d (.int .i64 b)), (28, .d (slK .i64 l)), (29, .d (.int .i64 l.length)), (30, .d (.int .i64 o.length))],
        [(1000, .row 3 1 o.length (fun i => [.int .i64 (o.getD i 0)]))], [1000]⟩)
      (fun o => o.length ≤ l.length ∧ o = (l.take o.length).map (b * ·) ∧ ∀ x, x ∈ l.take o.length → 0 ≤ x ∧ x ≤ 1099511627776) (fun o => l.length - o.length) [] ⟨Nat.zero_le _, rfl, by simp⟩ ((Wk.row0 (s := 7) (k := 1000) (e := 3) (sz := 1) (f' := fun _ => []) rfl rfl (by simp)).trans (Wk.of _ hfn rfl (by (simp only [EnvLe, VLe_refl, slK, Go.Bx.get, List.length_nil, reduceCtorEq, ↓reduceIte, and_self, eq_self, Nat.reduceEqDiff, Nat.succ_ne_self, Nat.zero_ne_one, Int.cast_ofNat_Int]) <;> (first | exact wS (by omega) | (rw [List.length_append]; exact wS (by omega)) | assumption)) (by simp only [OwnLe, exists_eq_left', Option.some.injEq, Go.Bx.own?, setO, List.length_nil, ↓reduceIte, and_true, eq_self]; exact OLe.row rfl (fun i hi => absurd hi (Nat.not_lt_zero i))))) ?_
  rintro o ⟨hk, ho, hr⟩
  simp only [vcC_seq, vcC_reg, vcC_skip, vcC_cond, vcC_block, vcC_exit, seqK_nrm, seqK_exit, blkK_nrm, blkK_exit, lopK_exit, nrmK_app, vcR_nil, vcR_n, vcR_s, isCall, makes, hasU, slK, newOf, opR, binI, pickV, evS, evV, evX, evSs, evVs, catV, gOf, Go.Bx.get, Go.Bx.own?, cellsV, cutD, nthD, toDs, St.stp, Ef.stp, lgs, setE, applyU, setO, delO, newN, Option.getD_some, Option.map_some, List.append_nil, List.length_cons, List.length_nil, List.mem_cons, List.not_mem_nil, Bool.true_and, Bool.false_eq_true, Bool.cond_true_left, reduceCtorEq, ↓reduceIte, true_and, and_true, and_self, or_false, not_false_eq_true, forall_const, implies_true, imp_self, eq_self, Nat.reduceEqDiff, Nat.zero_add, Nat.le_refl, Nat.succ_ne_self, Nat.zero_ne_one, Int.toNat_natCast, litRow, Nat.reduceLT, Nat.mul_one]
  refine ⟨fun h1 => ?_, fun h1 => ?_⟩
  · have hlt : o.length < l.length := by have := of_decide_eq_true h1; omega
    obtain ⟨x, hd, hg, hmx, hat⟩ := drop_at hlt
    simp only [hg]
    refine ⟨by omega, fun h => ?_, fun h => ?_⟩
    · repeat' first
          | (first
              | refine TR.p hP (by first | exact s14) (by repeat' first | exact trivial | (intro _; assumption) | apply And.intro) ?_
              | refine TR.gp hP rfl (fun _ => by first | exact s14) (fun _ => by repeat' first | exact trivial | (intro _; assumption) | apply And.intro) ?_
              | refine TR.pv hP rfl (by first | exact s14) trivial (by repeat' first | exact trivial | (intro _; assumption) | apply And.intro) ?_
             try simp only [vcC_ret, seqK_nrm, seqK_ret, blkK_ret, lopK_ret, nrmK_app, vcR_nil, vcR_n, isCall, makes, newOf, opR, evS, evV, evX, Go.Bx.get, St.stp, Ef.stp, lgs, setE, applyU, newN, Bool.false_eq_true, ↓reduceIte, true_and, eq_self])
          | refine And.intro (fun h => ?_) (fun h => ?_)
          | refine And.intro (by first | omega | (simp only [maxLen, decide_eq_true_eq, decide_eq_false_iff_not] at *; omega)) ?_
          | refine And.intro rfl ?_
          | fail
      all_goals exact RetK.pure (by simp only [rs10, ressS, resS, and_self]) (by (simp only [rs10, retV, resV, Go.Bx.get, ↓reduceIte, eq_self, VLe_refl, Go.Bx.get, ↓reduceIte, eq_self]) <;> (first | simp))
    · have hx2 : 0 ≤ x ∧ x ≤ 1099511627776 := by
        simp only [Bool.or_eq_false_iff, decide_eq_false_iff_not] at h; omega
      have hbx : b * x ≤ 1000 * 1099511627776 := Int.mul_le_mul h0.2.2 hx2.2 hx2.1 (by omega)
      have hbx0 : 0 ≤ b * x := Int.mul_nonneg (by omega) hx2.1
      have ew : IntKind.i64.wrap (b * x) = b * x := wI (by omega)
      have ht : l.take (o.length + 1) = l.take o.length ++ [x] := by rw [List.take_add_one, hat]; rfl
      simp only [ew]
      refine ⟨⟨by omega, Nat.le_trans (show o.length + 1 ≤ 300 by omega) (by decide)⟩, ?_⟩
      exact lopK.on (o ++ [b * x]) ⟨by simp; omega, by rw [List.length_append, List.length_singleton, ht, List.map_append, ← ho]; rfl, by
          rw [List.length_append, List.length_singleton, ht]
          intro y hy
          rcases List.mem_append.1 hy with hy | hy
          · exact hr y hy
          · simp at hy; rw [hy]; exact hx2⟩ (by simp; omega) (Wk.snoc (k := 46) _ hfn rfl rfl rfl rfl (OLe.app1 (cells := fun n => [.int .i64 n]) (fun i hi => by simp only [if_pos hi]) (by simp)) (by (simp only [EnvLe, VLe_refl, VLe_int, Go.Bx.get, reduceCtorEq, ↓reduceIte, true_and, and_true, eq_self, Nat.reduceEqDiff, Nat.succ_ne_self, Nat.zero_ne_one]) <;> (first | exact wS (by omega) | (rw [List.length_append]; exact wS (by omega)) | assumption)) (by simp only [OwnLe]) (by simp) (by simp only [EnvLe, VLe_refl, Go.Bx.get, reduceCtorEq, ↓reduceIte, and_self, eq_self, Nat.reduceEqDiff, Nat.zero_ne_one]) (by simp only [OwnLe, OLe_refl, exists_eq_left', Option.some.injEq, Go.Bx.own?, setO, delO, ↓reduceIte, and_self, eq_self]))
  · have hkl : o.length = l.length := by have := of_decide_eq_false h1; omega
    rw [hkl, List.take_length] at ho hr
    have ol : o.length ≤ 9223372036854775807 := by omega
    have ox : ∀ x, x ∈ o → x ≤ 9223372036854775807 := by
      intro x hxm
      rw [ho] at hxm
      obtain ⟨y, hy, rfl⟩ := List.mem_map.1 hxm
      have h3 := hr y hy
      have : b * y ≤ 1000 * 1099511627776 := Int.mul_le_mul h0.2.2 h3.2 h3.1 (by omega)
      omega
    have co := s19 m o hm ol ox
    have e : splitR m o = splitR m l := by rw [ho]; exact split_twice h0.1 h0.2.1 h0.2.2 hr
    rw [e] at co
    have cone := s19' (m := m) (full := true) (n := 1) (ds := [.int .i64 b]) (l := [b]) (by repeat constructor) rfl hm (by simp) (by simpa using hb)
    have c21 := s21 (splitR m l).1 (splitR m l).1 (Nat.le_trans (split_len m l) hl)
    rw [split_one h0.2.1 h0.2.2] at cone
    have cm0 := s21' (a := []) (full := true) (n := 1) (ds := [.int .i64 m]) (b := [m]) (by repeat constructor) rfl (by simp)
    refine TR.wk _ (Wk.pub 1000 rfl) ?_
    by_cases m0 : m < 0
    · rw [if_pos m0] at cone
      have em : decide (m ≥ 0) = false := decide_eq_false (by omega)
      repeat' first
          | (first
              | refine TR.p hP (by first | exact c19 | exact co | exact cone | exact c21 | exact cm0 | exact s14) (by repeat' first | exact trivial | (intro _; assumption) | apply And.intro) ?_
              | refine TR.gp hP rfl (fun _ => by first | exact c19 | exact co | exact cone | exact c21 | exact cm0 | exact s14) (fun _ => by repeat' first | exact trivial | (intro _; assumption) | apply And.intro) ?_
              | refine TR.pv hP rfl (by first | exact c19 | exact co | exact cone | exact c21 | exact cm0 | exact s14) trivial (by repeat' first | exact trivial | (intro _; assumption) | apply And.intro) ?_
             try simp only [em, vcC_seq, vcC_reg, vcC_ret, seqK_nrm, nrmK_app, vcR_nil, vcR_n, vcR_s, isCall, makes, hasU, slK, newOf, opR, binI, pickV, evS, evV, evX, evSs, evVs, catV, gOf, Go.Bx.get, cellsV, nth, toDs, St.stp, Ef.stp, lgs, setE, applyU, delO, newN, Option.getD_some, Option.map_some, List.append_nil, List.length_cons, List.length_nil, List.mem_cons, List.not_mem_nil, Bool.and_true, Bool.true_and, Bool.and_self, Bool.false_eq_true, Bool.cond_false_right, cond_true, cond_false, reduceCtorEq, ↓reduceIte, true_and, and_true, and_self, or_false, not_false_eq_true, forall_const, implies_true, imp_self, eq_self, Nat.reduceAdd, Nat.reduceEqDiff, Nat.zero_add, Nat.succ_ne_self, pubE, pubV, pubO, Nat.reduceLT, decide_true, decide_false, beq_self_eq_true])
          | refine And.intro (fun h => ?_) (fun h => ?_)
          | refine And.intro (by first | omega | (simp only [maxLen, decide_eq_true_eq, decide_eq_false_iff_not] at *; omega)) ?_
          | refine And.intro rfl ?_
          | fail
      all_goals exact RetK.pure (by simp only [rs10, ressS, resS, and_self]) (by (simp only [rs10, retV, resV, Go.Bx.get, ↓reduceIte, eq_self, VLe_bool, Go.Bx.get, ↓reduceIte, eq_self]) <;> (first | simp))
    by_cases m4 : 4000000000000000000 < m
    · rw [if_neg m0, if_pos m4] at cone
      have em : decide (m ≥ 0) = true := decide_eq_true (by omega)
      have em4 : decide (m ≤ 4000000000000000000) = false := decide_eq_false (by omega)
      repeat' first
          | (first
              | refine TR.p hP (by first | exact c19 | exact co | exact cone | exact c21 | exact cm0 | exact s14) (by repeat' first | exact trivial | (intro _; assumption) | apply And.intro) ?_
              | refine TR.gp hP rfl (fun _ => by first | exact c19 | exact co | exact cone | exact c21 | exact cm0 | exact s14) (fun _ => by repeat' first | exact trivial | (intro _; assumption) | apply And.intro) ?_
              | refine TR.pv hP rfl (by first | exact c19 | exact co | exact cone | exact c21 | exact cm0 | exact s14) trivial (by repeat' first | exact trivial | (intro _; assumption) | apply And.intro) ?_
             try simp only [em, em4, vcC_seq, vcC_reg, vcC_ret, seqK_nrm, nrmK_app, vcR_nil, vcR_n, vcR_s, isCall, makes, hasU, slK, newOf, opR, binI, pickV, evS, evV, evX, evSs, evVs, catV, gOf, Go.Bx.get, cellsV, nth, toDs, St.stp, Ef.stp, lgs, setE, applyU, delO, newN, Option.getD_some, Option.map_some, List.append_nil, List.length_cons, List.length_nil, List.mem_cons, List.not_mem_nil, Bool.and_true, Bool.true_and, Bool.and_self, Bool.false_eq_true, Bool.cond_false_right, cond_true, reduceCtorEq, ↓reduceIte, true_and, and_true, and_self, or_false, not_false_eq_true, forall_const, implies_true, imp_self, eq_self, Nat.reduceAdd, Nat.reduceEqDiff, Nat.zero_add, Nat.succ_ne_self, pubE, pubV, pubO, Nat.reduceLT, decide_true, decide_false, beq_self_eq_true])
          | refine And.intro (fun h => ?_) (fun h => ?_)
          | refine And.intro (by first | omega | (simp only [maxLen, decide_eq_true_eq, decide_eq_false_iff_not] at *; omega)) ?_
          | refine And.intro rfl ?_
          | fail
      all_goals exact RetK.pure (by simp only [rs10, ressS, resS, and_self]) (by (simp only [rs10, retV, resV, Go.Bx.get, ↓reduceIte, eq_self, VLe_bool, Go.Bx.get, ↓reduceIte, eq_self]) <;> (first | simp))
    · rw [if_neg m0, if_neg m4] at cone
      have em : decide (m ≥ 0) = true := decide_eq_true (by omega)
      have em4 : decide (m ≤ 4000000000000000000) = true := decide_eq_true (by omega)
      have cm := s21' (a := [m]) (full := true) (n := 1) (ds := [.int .i64 m]) (b := [m]) (by repeat constructor) rfl (by simp)
      repeat' first
          | (first
              | refine TR.p hP (by first | exact c19 | exact co | exact cone | exact c21 | exact cm | exact s14) (by repeat' first | exact trivial | (intro _; assumption) | apply And.intro) ?_
              | refine TR.gp hP rfl (fun _ => by first | exact c19 | exact co | exact cone | exact c21 | exact cm | exact s14) (fun _ => by repeat' first | exact trivial | (intro _; assumption) | apply And.intro) ?_
              | refine TR.pv hP rfl (by first | exact c19 | exact co | exact cone | exact c21 | exact cm | exact s14) trivial (by repeat' first | exact trivial | (intro _; assumption) | apply And.intro) ?_
             try simp only [em, em4, vcC_seq, vcC_reg, vcC_ret, seqK_nrm, nrmK_app, vcR_nil, vcR_n, vcR_s, isCall, makes, hasU, slK, newOf, opR, binI, pickV, evS, evV, evX, evSs, evVs, catV, gOf, Go.Bx.get, cellsV, nth, toDs, St.stp, Ef.stp, lgs, setE, applyU, delO, newN, Option.getD_some, Option.map_some, List.append_nil, List.length_cons, List.length_nil, List.mem_cons, List.not_mem_nil, Bool.true_and, Bool.and_self, Bool.false_eq_true, Bool.cond_true_left, cond_true, reduceCtorEq, ↓reduceIte, true_and, and_true, and_self, or_false, not_false_eq_true, forall_const, implies_true, imp_self, eq_self, Nat.reduceAdd, Nat.reduceEqDiff, Nat.zero_add, Nat.succ_ne_self, pubE, pubV, pubO, Nat.reduceLT, decide_true, beq_self_eq_true])
          | refine And.intro (fun h => ?_) (fun h => ?_)
          | refine And.intro (by first | omega | (simp only [maxLen, decide_eq_true_eq, decide_eq_false_iff_not] at *; omega)) ?_
          | refine And.intro rfl ?_
          | fail
      all_goals exact RetK.pure (by simp only [rs10, ressS, resS, and_self]) (by (simp only [rs10, retV, resV, Go.Bx.get, ↓reduceIte, eq_self, VLe_bool, Go.Bx.get, ↓reduceIte, eq_self]) <;> (first | simp))

theorem ends_facts {m : Int} {l : List Int} {B : Nat} (ok : SOk m l) (hm : m ≤ 9223372036854775807) (hx : ∀ x, x ∈ l → x ≤ 9223372036854775807) (h1 : 1 ≤ B) (hB : B < l.length) :
    ∃ xs ys : List Int, splitR m l = (xs, 0) ∧
      Ctr Try.prog 19 [.d (.int .i64 m), .d (.sl false 1 (1 + (l.length - B)) fun i => if i < 1 then List.take 1 (List.drop i [.int .i64 (l.take B).sum]) else [.int .i64 (l.getD (B + (i - 1)) 0)])] [] (.tup [.d (slK .i64 ys), .d (.int .i64 0)]) [] [] ∧
      xs.length = l.length ∧ ys.length = 1 + (l.length - B) ∧ ys.getD 0 0 = (xs.take B).sum ∧
      (∀ k, k < B → 0 ≤ (xs.take k).sum ∧ (xs.take (k + 1)).sum = (xs.take k).sum + xs.getD k 0 ∧ (xs.take (k + 1)).sum ≤ m ∧ 0 ≤ (xs.take (k + 1)).sum) ∧
      Ctr Try.prog 21 [.d (.sl false 1 (ys.length - 1) fun i => [.int .i64 (ys.getD (1 + i) 0)]), .d (.sl false 1 (xs.length - B) fun i => [.int .i64 (xs.getD (B + i) 0)])] [] (.d (.bool true)) [] [] := by
  have hm0 := ok.m0
  have hS0 := ok.S0
  have hS4 := ok.S4
  have hn2 := ok.n2
  have tB := take_nn ok.nn B
  have hsum : ((l.take B).sum :: l.drop B).sum = l.sum := by rw [List.sum_cons, ← List.sum_append, List.take_append_drop]
  have ok2 : SOk m ((l.take B).sum :: l.drop B) := ⟨hm0, ok.m4, by simp; omega, by
    intro x hxm
    rcases List.mem_cons.1 hxm with rfl | hxm
    · exact tB.1
    · exact ok.nn x (List.mem_of_mem_drop hxm), by rw [hsum]; exact hS0, by rw [hsum]; exact hS4⟩
  have e := split_ok ok
  have e2 := split_ok ok2
  rw [hsum] at e2
  have hd := dealQ_drop m l.sum B l 0
  have ht := dealQ_take m l.sum B l 0
  have hyq : dealQ m l.sum 0 ((l.take B).sum :: l.drop B) = ((dealQ m l.sum 0 l).take B).sum :: (dealQ m l.sum 0 l).drop B := by
    rw [dealQ, ht, hd]
  rw [hyq] at e2
  have hxl := dealQ_len m l.sum l 0
  have hpre : ∀ k, k < l.length → 0 ≤ ((dealQ m l.sum 0 l).take k).sum ∧ ((dealQ m l.sum 0 l).take (k + 1)).sum = ((dealQ m l.sum 0 l).take k).sum + (dealQ m l.sum 0 l).getD k 0 ∧ ((dealQ m l.sum 0 l).take (k + 1)).sum ≤ m ∧ 0 ≤ ((dealQ m l.sum 0 l).take (k + 1)).sum := by
    intro k hk
    have t1 := take_nn ok.nn k
    have t2 := take_nn ok.nn (k + 1)
    have q2 := quo_nn hm0 hS0 t1.1
    have q3 := quo_top hm0 hS0 t2.2
    have q4 := quo_nn hm0 hS0 t2.1
    refine ⟨?_, take_sum (by omega), ?_, ?_⟩
    · rw [dealQ_take]; simp; exact q2
    · rw [dealQ_take]; simp; exact q3
    · rw [dealQ_take]; simp; exact q4
  generalize dealQ m l.sum 0 l = xs at *
  refine ⟨xs, (xs.take B).sum :: xs.drop B, e, ?_, hxl, by simp [hxl]; omega, by simp, fun k hk => hpre k (by omega), ?_⟩
  · have h := s19 m ((l.take B).sum :: l.drop B) hm (by simp; omega) (by
      intro x hxm
      rcases List.mem_cons.1 hxm with rfl | hxm
      · omega
      · exact hx x (List.mem_of_mem_drop hxm))
    rw [e2] at h
    refine h.arg ⟨VLe.refl _, VLe.sl (by simp; omega) (fun _ => rfl) id (fun i hi => ?_), trivial⟩
    by_cases hi0 : i < 1
    · have : i = 0 := by omega
      subst this; simp
    · obtain ⟨j, rfl⟩ : ∃ j, i = j + 1 := ⟨i - 1, by omega⟩
      simp [List.getD_eq_getElem?_getD]
  · have h := s21 (xs.drop B) (xs.drop B) (by simp; omega)
    rw [decide_eq_true rfl] at h
    refine h.arg ⟨VLe.sl (by simp) (fun _ => rfl) id (fun i hi => ?_), VLe.sl (by simp) (fun _ => rfl) id (fun i hi => ?_), trivial⟩
    · simp [List.getD_eq_getElem?_getD, Nat.add_comm 1 i]
    · simp [List.getD_eq_getElem?_getD]
set_option maxHeartbeats 2000000 in
theorem f11 (m : Int) (l : List Int) (b : Int) (hm : m ≤ 9223372036854775807) (hl : l.length ≤ 9223372036854775807) (hx : ∀ x, x ∈ l → x ≤ 9223372036854775807) :
    Ctr Try.prog 11 [.d (.int .i64 m), .d (slK .i64 l), .d (.int .i64 b)] [] (.d (.bool true)) [] [] := by
  have c19 := s19 m l hm hl hx
  refine pure11 (by simp) rfl rfl ?_; intro c hP hfn; simp only [c11, ↓evSo_some, vcC_seq, vcC_reg, vcC_skip, vcC_cond, vcC_block, seqK_nrm, nrmK_app, initE, vcR_nil, vcR_n, vcR_s, isCall, makes, hasU, slK, newOf, opR, binI, pickV, evS, evV, evX, gOf, Go.Bx.get, St.stp, Ef.stp, lgs, setE, applyU, newN, Option.getD_some, Option.map_some, Option.map_none, List.not_mem_nil, Bool.true_and, Bool.false_eq_true, Bool.cond_true_left, reduceCtorEq, ↓reduceIte, true_and, and_true, and_self, not_false_eq_true, forall_const, implies_true, imp_self, eq_self, Nat.reduceAdd, Nat.reduceEqDiff, Nat.zero_add, Nat.succ_ne_self, Nat.zero_ne_one]
  refine ⟨fun h => ?_, fun h => ?_⟩
  · repeat' first
        | (first
            | refine TR.p hP (by first | exact s14) (by repeat' first | exact trivial | (intro _; assumption) | apply And.intro) ?_
            | refine TR.gp hP rfl (fun _ => by first | exact s14) (fun _ => by repeat' first | exact trivial | (intro _; assumption) | apply And.intro) ?_
            | refine TR.pv hP rfl (by first | exact s14) trivial (by repeat' first | exact trivial | (intro _; assumption) | apply And.intro) ?_
           try simp only [vcC_ret, seqK_nrm, seqK_ret, nrmK_app, vcR_nil, vcR_n, isCall, makes, newOf, opR, evS, evV, evX, Go.Bx.get, St.stp, Ef.stp, lgs, setE, applyU, newN, Bool.false_eq_true, ↓reduceIte, true_and, eq_self])
        | refine And.intro (fun h => ?_) (fun h => ?_)
        | refine And.intro (by first | omega | (simp only [maxLen, decide_eq_true_eq, decide_eq_false_iff_not] at *; omega)) ?_
        | refine And.intro rfl ?_
        | fail
    all_goals exact RetK.pure (by simp only [rs11, ressS, resS, and_self]) (by (simp only [rs11, retV, resV, Go.Bx.get, ↓reduceIte, eq_self, VLe_refl, Go.Bx.get, ↓reduceIte, eq_self]) <;> (first | simp))
  have h0 : l.length ≤ 300 ∧ 1 ≤ b ∧ b < l.length := by
    simp only [Bool.or_eq_false_iff, decide_eq_false_iff_not] at h; omega
  clear h
  obtain ⟨B, rfl⟩ : ∃ A : Nat, b = (A : Int) := ⟨b.toNat, by omega⟩
  refine ⟨by omega, ?_⟩
  simp only [Int.toNat_natCast]
  refine vcC.loopX (X := Nat) (Y := Int × Bool)
    (fun k => ⟨[(0, .d (.int .i64 m)), (1, .d (slK .i64 l)), (2, .d (.int .i64 B)), (7, .d (.int .i64 (l.take k).sum)), (8, .d (.bool true)), (34, .d (.sl false 1 B fun i => [.int .i64 (l.getD i 0)])), (35, .d (.int .i64 B)), (36, .d (.int .i64 k))], [], []⟩)
    (fun k => k ≤ B ∧ (∀ x, x ∈ l.take k → 0 ≤ x) ∧ (l.take k).sum ≤ 4000000000000000000) (fun k => B - k) 0
    (fun y => ⟨[(0, .d (.int .i64 m)), (1, .d (slK .i64 l)), (2, .d (.int .i64 B)), (7, .d (.int .i64 y.1)), (8, .d (.bool y.2))], [], []⟩)
    (fun y => (y.2 = false → (splitR m l).2 ≠ 0) ∧ (y.2 = true → y.1 = (l.take B).sum))
    ⟨Nat.zero_le _, by simp, by simp⟩ (Wk.of [] hfn rfl (by (simp only [List.take_zero, List.sum_nil, EnvLe, VLe_refl, slK, Go.Bx.get, reduceCtorEq, ↓reduceIte, and_self, eq_self, Nat.reduceEqDiff, Nat.succ_ne_self, Nat.zero_ne_one, List.take_zero, Int.cast_ofNat_Int]) <;> (first | exact wS (by omega) | (rw [List.length_append]; exact wS (by omega)) | assumption)) (by simp only [OwnLe])) ?_ ?_
  · rintro k ⟨hk, hnn, hs4⟩
    simp only [vcC_seq, vcC_reg, vcC_skip, vcC_cond, vcC_block, vcC_exit, seqK_nrm, seqK_exit, blkK_nrm, blkK_exit, lopX_exit, nrmK_app, vcR_nil, vcR_n, vcR_s, isCall, makes, hasU, slK, newOf, opR, binI, pickV, evS, evV, evX, gOf, Go.Bx.get, cutD, nthD, St.stp, Ef.stp, lgs, setE, applyU, newN, Option.getD_some, List.length_cons, List.length_nil, List.not_mem_nil, Bool.true_and, Bool.false_eq_true, Bool.cond_true_left, reduceCtorEq, ↓reduceIte, true_and, and_true, and_self, not_false_eq_true, forall_const, implies_true, imp_self, eq_self, ne_eq, Nat.reduceEqDiff, Nat.zero_add, Nat.le_refl, Nat.succ_ne_self, Nat.zero_ne_one, Int.toNat_natCast]
    refine ⟨fun h1 => ?_, fun h1 => ?_⟩
    · have hlt : k < B := by have := of_decide_eq_true h1; omega
      have hlt2 : k < l.length := by omega
      obtain ⟨x, hd, hg, hmx, hat⟩ := drop_at hlt2
      have hs0 := sum_nonneg hnn
      have ts := take_sum hlt2
      have ew : IntKind.i64.wrap (4000000000000000000 - (l.take k).sum) = 4000000000000000000 - (l.take k).sum := wI (by omega)
      have ht : l.take (k + 1) = l.take k ++ [x] := by rw [List.take_add_one, hat]; rfl
      rw [hg] at ts
      simp only [hg, ew]
      refine ⟨by omega, fun h => ?_, fun h => ?_⟩
      · refine ⟨((l.take k).sum, false), ⟨fun _ e => ?_, fun h => by cases h⟩, Wk.of [] hfn rfl (by (simp only [EnvLe, VLe_refl, Go.Bx.get, reduceCtorEq, ↓reduceIte, and_self, eq_self, Nat.reduceEqDiff, Nat.succ_ne_self, Nat.zero_ne_one]) <;> (first | exact wS (by omega) | (rw [List.length_append]; exact wS (by omega)) | assumption)) (by simp only [OwnLe])⟩
        have ok := split_inv e
        have t2 := take_nn ok.nn (k + 1)
        have := ok.S4
        have := ok.nn x hmx
        simp only [Bool.or_eq_true, decide_eq_true_eq] at h
        omega
      · simp only [Bool.or_eq_false_iff, decide_eq_false_iff_not] at h
        have ew2 : IntKind.i64.wrap ((l.take k).sum + x) = (l.take (k + 1)).sum := (wI (by omega)).trans ts.symm
        simp only [ew2]
        refine lopX.on (k + 1) ⟨by omega, ?_, by omega⟩ (by omega) (Wk.of [] hfn rfl (by (simp only [EnvLe, VLe_refl, VLe_int, Go.Bx.get, reduceCtorEq, ↓reduceIte, true_and, and_true, eq_self, Nat.reduceEqDiff, Nat.succ_ne_self, Nat.zero_ne_one]) <;> (first | exact wS (by omega) | (rw [List.length_append]; exact wS (by omega)) | assumption)) (by simp only [OwnLe]))
        intro y hy
        rw [ht] at hy
        rcases List.mem_append.1 hy with hy | hy
        · exact hnn y hy
        · simp at hy; omega
    · have hkl : k = B := by have := of_decide_eq_false h1; omega
      subst hkl
      exact ⟨((l.take k).sum, true), ⟨fun h => (by cases h), fun _ => rfl⟩, Wk.of [] hfn rfl (by (simp only [EnvLe, VLe_refl, Go.Bx.get, reduceCtorEq, ↓reduceIte, and_self, eq_self, Nat.reduceEqDiff, Nat.zero_ne_one]) <;> (first | exact wS (by omega) | (rw [List.length_append]; exact wS (by omega)) | assumption)) (by simp only [OwnLe])⟩
  · rintro ⟨first, is⟩ ⟨y1, y2⟩
    simp only at y1 y2
    simp only [vcC_seq, vcC_reg, seqK_nrm, vcR_n, isCall, makes, slK, newOf, opR, evS, evV, evX, Go.Bx.get, St.stp, Ef.stp, lgs, setE, applyU, newN, Bool.false_eq_true, ↓reduceIte, true_and, eq_self, Nat.reduceEqDiff, Nat.zero_ne_one]
    cases is with
    | false =>
      have y1 := y1 rfl
      repeat' first
          | (first
              | refine TR.p hP (by first | exact c19 | exact s14) (by repeat' first | exact trivial | (intro _; assumption) | apply And.intro) ?_
              | refine TR.gp hP rfl (fun _ => by first | exact c19 | exact s14) (fun _ => by repeat' first | exact trivial | (intro _; assumption) | apply And.intro) ?_
              | refine TR.pv hP rfl (by first | exact c19 | exact s14) trivial (by repeat' first | exact trivial | (intro _; assumption) | apply And.intro) ?_
             try simp only [↓evSo_some, vcC_seq, vcC_reg, vcC_skip, vcC_cond, vcC_ret, seqK_nrm, seqK_ret, nrmK_app, vcR_nil, vcR_n, vcR_s, isCall, makes, hasU, slK, newOf, opR, binI, pickV, evS, evV, evX, evSs, evVs, catV, gOf, Go.Bx.get, cellsV, nth, toDs, St.stp, Ef.stp, lgs, setE, applyU, setO, newN, Option.getD_some, Option.map_some, Option.map_none, List.append_nil, List.length_cons, List.length_nil, List.not_mem_nil, Bool.true_and, Bool.and_self, Bool.not_true, Bool.not_false, Bool.false_eq_true, Bool.true_eq_false, cond_true, cond_false, reduceCtorEq, ↓reduceIte, true_and, and_true, and_self, false_or, not_false_eq_true, forall_const, false_implies, implies_true, imp_self, eq_self, Nat.reduceAdd, Nat.reduceEqDiff, Nat.zero_add, Nat.succ_ne_self, Nat.zero_ne_one, Int.toNat_natCast, litRow, Nat.reduceLT, Nat.mul_one])
          | refine And.intro (fun h => ?_) (fun h => ?_)
          | refine And.intro (by first | omega | (simp only [maxLen, decide_eq_true_eq, decide_eq_false_iff_not] at *; omega)) ?_
          | refine And.intro rfl ?_
          | fail
      exact RetK.pure (by simp only [rs11, ressS, resS, and_self]) (by (simp only [rs11, retV, resV, Go.Bx.get, ↓reduceIte, eq_self, VLe_bool, Go.Bx.get, ↓reduceIte, eq_self]) <;> (first | simp [y1]))
    | true =>
      have y2 := y2 rfl
      subst y2
      repeat' first
          | (first
              | refine TR.p hP (by first | exact c19 | exact s14) (by repeat' first | exact trivial | (intro _; assumption) | apply And.intro) ?_
              | refine TR.gp hP rfl (fun _ => by first | exact c19 | exact s14) (fun _ => by repeat' first | exact trivial | (intro _; assumption) | apply And.intro) ?_
              | refine TR.pv hP rfl (by first | exact c19 | exact s14) trivial (by repeat' first | exact trivial | (intro _; assumption) | apply And.intro) ?_
             try simp only [↓evSo_some, vcC_seq, vcC_reg, vcC_skip, vcC_cond, vcC_ret, seqK_nrm, seqK_ret, nrmK_app, vcR_nil, vcR_n, vcR_s, isCall, makes, hasU, slK, newOf, opR, binI, pickV, evS, evV, evX, evSs, evVs, catV, gOf, Go.Bx.get, cellsV, nth, toDs, St.stp, Ef.stp, lgs, setE, applyU, setO, newN, Option.getD_some, Option.map_some, Option.map_none, List.append_nil, List.length_cons, List.length_nil, List.not_mem_nil, Bool.true_and, Bool.and_self, Bool.not_true, Bool.not_false, Bool.false_eq_true, cond_true, cond_false, reduceCtorEq, ↓reduceIte, true_and, and_true, and_self, false_or, not_false_eq_true, forall_const, implies_true, imp_self, eq_self, Nat.reduceAdd, Nat.reduceEqDiff, Nat.zero_add, Nat.succ_ne_self, Nat.zero_ne_one, Int.toNat_natCast, litRow, Nat.reduceLT, Nat.mul_one])
          | refine And.intro (fun h => ?_) (fun h => ?_)
          | refine And.intro (by first | omega | (simp only [maxLen] at *; omega)) ?_
          | refine And.intro rfl ?_
          | fail
      · exact RetK.pure (by simp only [rs11, ressS, resS, and_self]) (by (simp only [rs11, retV, resV, Go.Bx.get, ↓reduceIte, eq_self, VLe_refl, Go.Bx.get, ↓reduceIte, eq_self]) <;> (first | simp))
      have ok := split_inv (show (splitR m l).2 = 0 by simpa using h)
      clear h
      have hm0 := ok.m0
      have hm4 := ok.m4
      have hS0 := ok.S0
      have hS4 := ok.S4
      obtain ⟨xs, ys, e, cy, hxl, hyl, hy0, hpre, c21⟩ := ends_facts ok hm hx (show 1 ≤ B by omega) (show B < l.length by omega)
      refine TR.wk _ (Wk.pub 79 rfl) ?_
      repeat' first
          | (first
              | refine TR.p hP (by first | exact cy) (by repeat' first | exact trivial | (intro _; assumption) | apply And.intro) ?_
              | refine TR.gp hP rfl (fun _ => by first | exact cy) (fun _ => by repeat' first | exact trivial | (intro _; assumption) | apply And.intro) ?_
              | refine TR.pv hP rfl (by first | exact cy) trivial (by repeat' first | exact trivial | (intro _; assumption) | apply And.intro) ?_
             try simp only [e, ↓evSo_some, vcC_seq, vcC_reg, vcC_skip, vcC_cond, vcC_block, vcC_ret, seqK_nrm, seqK_ret, nrmK_app, vcR_nil, vcR_n, vcR_s, isCall, makes, hasU, slK, newOf, opR, binI, pickV, evS, evV, evX, gOf, Go.Bx.get, nth, St.stp, Ef.stp, lgs, setE, applyU, delO, newN, Option.getD_some, Option.map_some, Option.map_none, List.length_cons, List.length_nil, List.mem_cons, List.not_mem_nil, Bool.true_and, Bool.false_eq_true, Bool.cond_true_left, reduceCtorEq, ↓reduceIte, true_and, and_true, and_self, or_false, not_false_eq_true, forall_const, implies_true, imp_self, eq_self, Nat.reduceAdd, Nat.reduceEqDiff, Nat.zero_add, Nat.succ_ne_self, Nat.zero_ne_one, Int.toNat_natCast, pubE, pubV, pubL, pubO, Nat.reduceLT])
          | refine And.intro (fun h => ?_) (fun h => ?_)
          | refine And.intro (by first | omega | (simp only [maxLen, decide_eq_true_eq, decide_eq_false_iff_not] at *; omega)) ?_
          | refine And.intro rfl ?_
          | fail
      · exfalso
        simp at h
        rcases h with h | h
        · rw [h] at hyl; simp at hyl; omega
        · omega
      refine vcC.loop (X := Nat) (fun k => ⟨[(2, .d (.int .i64 B)), (11, .d (slK .i64 xs)), (13, .d (slK .i64 ys)), (15, .d (.int .i64 (xs.take k).sum)), (99, .d (.sl false 1 B fun i => [.int .i64 (xs.getD i 0)])), (100, .d (.int .i64 B)), (101, .d (.int .i64 k))], [], []⟩)
        (fun k => k ≤ B) (fun k => B - k) 0 (Nat.zero_le _) (Wk.of [] hfn rfl (by (simp only [List.take_zero, List.sum_nil, EnvLe, VLe_refl, slK, Go.Bx.get, reduceCtorEq, ↓reduceIte, and_self, eq_self, Nat.reduceEqDiff, Nat.succ_ne_self, List.take_zero, Int.cast_ofNat_Int]) <;> (first | exact wS (by omega) | (rw [List.length_append]; exact wS (by omega)) | assumption)) (by simp only [OwnLe])) ?_
      intro k hk
      simp only [vcC_seq, vcC_reg, vcC_drw, vcC_skip, vcC_cond, vcC_block, vcC_exit, seqK_nrm, seqK_exit, blkK_nrm, blkK_exit, lopK_exit, nrmK_app, vcR_nil, vcR_n, isCall, makes, slK, newOf, opR, binI, evS, evV, evX, Go.Bx.get, cutD, nthD, St.stp, Ef.stp, lgs, setE, applyU, newN, List.length_cons, List.length_nil, Bool.false_eq_true, ↓reduceIte, true_and, and_true, and_self, eq_self, Nat.reduceEqDiff, Nat.zero_add, Nat.le_refl, Nat.succ_ne_self, Int.toNat_natCast]
      refine ⟨fun h1 => ?_, fun h1 => ?_⟩
      · have hlt : k < B := by have := of_decide_eq_true h1; omega
        obtain ⟨g1, g2, g3, g4⟩ := hpre k hlt
        have ew : IntKind.i64.wrap ((xs.take k).sum + xs.getD k 0) = (xs.take (k + 1)).sum := (wI (by omega)).trans g2.symm
        simp only [ew]
        refine ⟨by omega, ?_⟩
        exact lopK.on (k + 1) (by omega) (by omega) (Wk.of [] hfn rfl (by (simp only [EnvLe, VLe_refl, VLe_int, Go.Bx.get, ↓reduceIte, true_and, and_true, eq_self, Nat.reduceEqDiff, Nat.succ_ne_self]) <;> (first | exact wS (by omega) | (rw [List.length_append]; exact wS (by omega)) | assumption)) (by simp only [OwnLe]))
      · have hkl : k = B := by have := of_decide_eq_false h1; omega
        subst hkl
        repeat' first
            | (first
                | refine TR.p hP (by first | exact c21 | exact s14) (by repeat' first | exact trivial | (intro _; assumption) | apply And.intro) ?_
                | refine TR.gp hP rfl (fun _ => by first | exact c21 | exact s14) (fun _ => by repeat' first | exact trivial | (intro _; assumption) | apply And.intro) ?_
                | refine TR.pv hP rfl (by first | exact c21 | exact s14) trivial (by repeat' first | exact trivial | (intro _; assumption) | apply And.intro) ?_
               try simp only [hy0, ↓evSo_some, vcC_ret, seqK_nrm, drwK_app, vcR_nil, vcR_n, vcR_s, isCall, makes, hasU, newOf, opR, binI, pickV, evS, evV, evX, gOf, Go.Bx.get, cutD, nthD, St.stp, Ef.stp, Stp.lg, lgs, setE, applyU, newN, Option.getD_some, Option.map_some, Option.map_none, List.map_nil, List.append_nil, List.nil_append, List.cons_append, List.length_cons, List.length_nil, List.not_mem_nil, Bool.and_self, Bool.false_eq_true, cond_true, ↓reduceIte, true_and, and_true, and_self, not_false_eq_true, forall_const, implies_true, eq_self, Nat.reduceEqDiff, Nat.zero_add, Nat.le_refl, Nat.succ_ne_self, Int.toNat_natCast, Int.le_refl, Int.reduceToNat, Int.reduceLE, beq_self_eq_true])
            | refine And.intro (fun h => ?_) (fun h => ?_)
            | refine And.intro (by first | omega | (simp only [decide_eq_false_iff_not] at *; omega)) ?_
            | refine And.intro rfl ?_
            | fail
        exact RetK.pure (by simp only [rs11, ressS, resS, and_self]) (by (simp only [rs11, retV, resV, Go.Bx.get, ↓reduceIte, eq_self, VLe_refl, Go.Bx.get, ↓reduceIte, eq_self]) <;> (first | simp))
end Go.Proofs.Ytgeidjhobbndjaa
