import Derived.Test.YtllakgjfgdgfiaaD
namespace Go.Proofs.Ytllakgjfgdgfiaa
open Go.Bx

def slI (z : List Int) : D := .sl false 1 z.length (fun i => [.int .i64 (z.getD i 0)])
def slS (z : List (Int × Int)) : D := .sl false 2 z.length (fun i => [.int .i64 (z.getD i (0,0)).1, .int .i64 (z.getD i (0,0)).2])

def manyT (p : Int × Int) : Int := if (!(okS p)) = true then 0 else IntKind.i64.wrap (p.2 - p.1)
theorem rmany_spec (p : Int × Int) : Ctr Try.prog 35 [vS p] [] (.d (.int .i64 (manyT p))) [] [] := by
  refine pure35 (by simp) rfl rfl ?_
  intro c hP hfn
  simp only [c35, vS, vcC_seq, vcC_reg, seqK_nrm, nrmK_app, initE, vcR_nil, vcR_n, isCall, makes, newOf, opR, evS, evV, evX, Go.Bx.get, Go.Bx.own?, cellsV, isCell, cut, dropV, takeV, St.stp, Ef.stp, lgs, setE, applyU, setO, newN, Option.getD_some, List.all_cons, List.all_nil, List.length_cons, List.length_nil, List.not_mem_nil, Bool.and_self, Bool.false_eq_true, ↓reduceIte, true_and, and_self, not_false_eq_true, eq_self, Nat.reduceAdd, Nat.zero_add, Nat.le_refl, Nat.succ_ne_self]
  refine TR.pure (hP ▸ rsright_spec p) (by simp only [evS, evX, evSs, Go.Bx.get, ↓reduceIte, and_self, eq_self]) ?_
  simp only [vcC_seq, vcC_reg, vcC_skip, vcC_cond, vcC_ret, seqK_nrm, seqK_ret, nrmK_app, vcR_nil, vcR_n, isCall, makes, newOf, opR, binI, evS, evV, evX, Go.Bx.get, Go.Bx.own?, cut, nth, St.stp, Ef.stp, lgs, setE, applyU, newN, List.length_cons, List.length_nil, Bool.false_eq_true, ↓reduceIte, true_and, and_self, eq_self, Nat.reduceAdd, Nat.reduceLeDiff, Nat.reduceEqDiff, Nat.zero_add, Nat.add_zero, Nat.le_refl, Nat.succ_ne_self]
  refine ⟨fun h => ?_, fun h => ?_⟩
  · exact RetK.pure (by simp only [rs35, ressS, resS, and_self]) (by simp only [rs35, manyT, h, retV, resV, Go.Bx.get, ↓reduceIte, eq_self, VLe_refl, Go.Bx.get, ↓reduceIte, eq_self])
  · exact RetK.pure (by simp only [rs35, ressS, resS, and_self]) (by simp only [rs35, manyT, h, retV, resV, Go.Bx.get, Bool.false_eq_true, ↓reduceIte, eq_self, VLe_refl, Go.Bx.get, Bool.false_eq_true, ↓reduceIte, eq_self])

theorem many_pos (f t : Int) : manyT (f, t) > 0 ↔ okS (f, t) = true ∧ f < t := by
  unfold manyT
  by_cases h : okS (f, t) = true
  · rw [h]
    simp only [okS, Bool.and_eq_true, decide_eq_true_eq] at h
    simp only [Bool.not_true, Bool.false_eq_true, if_false, true_and]
    rw [W_def, W_eq]
    omega
  · have h : okS (f, t) = false := by simpa using h
    rw [h]; simp

def cutR (f : Int) : Int → List Int → Int
  | t, [] => t
  | t, x :: r => cutR f (if (decide (x > f) && decide (x < t)) = true then x else t) r
theorem cut_in (f : Int) : ∀ (z : List Int) (t : Int), f < t → f < cutR f t z ∧ cutR f t z ≤ t
  | [], t, h => ⟨h, Int.le_refl t⟩
  | x :: r, t, h => by
    rw [cutR]
    by_cases hx : (decide (x > f) && decide (x < t)) = true
    · rw [if_pos hx]
      simp only [Bool.and_eq_true, decide_eq_true_eq] at hx
      have := cut_in f r x (by omega)
      omega
    · rw [if_neg hx]; exact cut_in f r t h

def partsR (t : Int) (z : List Int) : Nat → Int → List (Int × Int)
  | 0, _ => []
  | n + 1, f => if manyT (f, t) > 0 then (f, cutR f t z) :: partsR t z n (cutR f t z) else []

theorem parts_stop (t : Int) (z : List Int) (n : Nat) (f : Int) (h : ¬ manyT (f, t) > 0) : partsR t z n f = [] := by
  cases n with
  | zero => rfl
  | succ n => rw [partsR, if_neg h]

theorem addT_sum (acc : Int) (f g h : Int → Bool) (hf : ∀ d, (if f d = true then (1 : Int) else 0) = (if g d = true then 1 else 0) + (if h d = true then 1 else 0)) : ∀ b : List Ent, addT acc f b = addT acc g b + addT acc h b
  | [] => rfl
  | e :: r => by
    have := hf e.day
    simp only [addT, addT_sum acc f g h hf r]
    by_cases h1 : f e.day = true <;> by_cases h2 : g e.day = true <;> by_cases h3 : h e.day = true <;> simp only [h1, h2, h3, if_true, if_false, Bool.false_eq_true] at this ⊢ <;> omega
theorem addT_none (acc : Int) (f : Int → Bool) (hf : ∀ d, f d = false) : ∀ b : List Ent, addT acc f b = 0
  | [] => rfl
  | e :: r => by rw [addT, hf, addT_none acc f hf r]; rfl

def sumP (acc : Int) (b : List Ent) : List (Int × Int) → Int
  | [] => 0
  | p :: r => addT acc (fun d => inR p d) b + sumP acc b r
theorem parts_sum (acc : Int) (b : List Ent) (t : Int) (z : List Int) : ∀ (n : Nat) (f : Int), (t - f).toNat ≤ n → sumP acc b (partsR t z n f) = addT acc (fun d => inR (f, t) d) b := by
  have stop : ∀ f, ¬ manyT (f, t) > 0 → addT acc (fun d => inR (f, t) d) b = 0 := fun f h => by
    refine addT_none acc _ (fun d => ?_) b
    rw [many_pos] at h
    rw [← rin_eq]
    simp only [okS, Bool.and_eq_true, decide_eq_true_eq] at h
    simp only [okS, Bool.and_eq_false_iff, decide_eq_false_iff_not]
    omega
  intro n
  induction n with
  | zero =>
    intro f hf
    rw [partsR, sumP, stop f]
    rw [many_pos]; omega
  | succ n ih =>
    intro f hf
    by_cases h : manyT (f, t) > 0
    · rw [partsR, if_pos h, sumP]
      rw [many_pos] at h
      obtain ⟨h1, h2⟩ := h
      obtain ⟨c1, c2⟩ := cut_in f z t h2
      rw [ih (cutR f t z) (by omega)]
      generalize cutR f t z = c at *
      refine (addT_sum acc _ _ _ (fun d => ?_) b).symm
      rw [← rin_eq, ← rin_eq, ← rin_eq]
      simp only [okS, Bool.and_eq_true, decide_eq_true_eq] at h1 ⊢
      by_cases h3 : f ≤ d <;> by_cases h4 : d < c <;> by_cases h5 : d < t
      · rw [if_pos (by omega), if_pos (by omega), if_neg (by omega)]; rfl
      · omega
      · rw [if_pos (by omega), if_neg (by omega), if_pos (by omega)]; rfl
      · rw [if_neg (by omega), if_neg (by omega), if_neg (by omega)]; rfl
      · rw [if_neg (by omega), if_neg (by omega), if_neg (by omega)]; rfl
      · rw [if_neg (by omega), if_neg (by omega), if_neg (by omega)]; rfl
      · omega
      · omega
    · rw [partsR, if_neg h, sumP, stop f h]

theorem parts_spec1 (p : Int × Int) (z : List Int) (hz : z.length ≤ 9223372036854775807) : Ctr Try.prog 22 [vS p, .d (slI z)] [] (.d (slS (partsR p.2 z (p.2 - p.1).toNat p.1))) [] [] := by
  obtain ⟨f0, t⟩ := p
  refine pure22 (by simp) rfl rfl ?_
  intro c hP hfn
  simp only [c22, vS, vcC_seq, vcC_reg, vcC_block, seqK_nrm, nrmK_app, initE, vcR_nil, vcR_n, isCall, makes, newOf, opR, evS, evV, evX, Go.Bx.get, cellsV, isCell, St.stp, Ef.stp, lgs, setE, applyU, setO, newN, Option.getD_some, List.all_cons, List.all_nil, List.not_mem_nil, Bool.and_self, Bool.false_eq_true, ↓reduceIte, true_and, and_self, not_false_eq_true, eq_self, Nat.zero_add]
  refine vcC.loop (X := List (Int × Int) × Int) (fun x => ⟨[(1, .d (slI z)), (2, .own 2 0), (5, .osl 1000)],
     [(2, .fix [.d (.int .i64 x.2), .d (.int .i64 t)]), (1000, .row 32 2 x.1.length (fun i => [.int .i64 (x.1.getD i (0,0)).1, .int .i64 (x.1.getD i (0,0)).2]))], [2, 1000]⟩)
    (fun x => f0 ≤ x.2 ∧ (x.1.length = 0 ∨ (x.1.length : Int) ≤ x.2 - 1) ∧ ∃ n, (t - x.2).toNat ≤ n ∧ partsR t z (t - f0).toNat f0 = x.1 ++ partsR t z n x.2) (fun x => (t - x.2).toNat) ([], f0) ⟨Int.le_refl _, .inl rfl, _, Nat.le_refl _, rfl⟩
    ((Wk.row0 (s := 5) (k := 1000) (e := 32) (sz := 2) (f' := fun _ => []) rfl rfl (by simp)).trans (Wk.of [] hfn rfl ?_ ?_)) ?_
  · simp only [EnvLe, VLe_refl, Go.Bx.get, ↓reduceIte, and_self, eq_self, Nat.reduceEqDiff, Nat.succ_ne_self, Nat.zero_ne_one]
  · simp only [OwnLe, OLe_refl, exists_eq_left', Option.some.injEq, Go.Bx.own?, setO, List.length_nil, ↓reduceIte, true_and, and_true, eq_self, Nat.reduceEqDiff]
    exact OLe.row rfl (fun i hi => absurd hi (Nat.not_lt_zero i))
  · rintro ⟨out, f⟩ ⟨hf0, hol, n, hn, he⟩
    simp only at hf0 hol hn he
    simp only [slI, vcC_seq, vcC_reg, vcR_n, isCall, makes, newOf, opR, evS, evV, evX, Go.Bx.get, Go.Bx.own?, cut, dropV, takeV, St.stp, Ef.stp, lgs, setE, applyU, newN, List.length_cons, List.length_nil, Bool.false_eq_true, ↓reduceIte, true_and, and_self, eq_self, Nat.reduceAdd, Nat.reduceEqDiff, Nat.zero_add, Nat.le_refl]
    refine TR.pure (hP ▸ rmany_spec (f, t)) (by simp only [evS, evX, evSs, Go.Bx.get, ↓reduceIte, and_self, eq_self]) ?_
    simp only [vcC_seq, vcC_reg, vcC_skip, vcC_cond, vcC_block, vcC_exit, vcC_ret, seqK_nrm, seqK_exit, blkK_exit, lopK_exit, nrmK_app, vcR_nil, vcR_n, isCall, makes, newOf, opR, binI, evS, evV, evX, Go.Bx.get, Go.Bx.own?, cut, nth, St.stp, Ef.stp, lgs, setE, applyU, newN, List.length_cons, List.length_nil, Bool.false_eq_true, ↓reduceIte, true_and, and_self, eq_self, Nat.reduceAdd, Nat.reduceEqDiff, Nat.zero_add, Nat.le_refl]
    refine ⟨fun h1 => ?_, fun h1 => ?_⟩
    · have h1 := of_decide_eq_true h1
      have hmp := (many_pos f t).1 h1
      obtain ⟨hok, hft⟩ := hmp
      simp only [okS, Bool.and_eq_true, decide_eq_true_eq] at hok
      refine vcC.loop (X := Nat × Int) (fun x => ⟨[(1, .d (slI z)), (2, .own 2 0), (5, .osl 1000), (6, .d (.int .i64 x.2)), (7, .d (.int .i64 x.1))],
          [(2, .fix [.d (.int .i64 f), .d (.int .i64 t)]), (1000, .row 32 2 out.length (fun i => [.int .i64 (out.getD i (0,0)).1, .int .i64 (out.getD i (0,0)).2]))], [2, 1000]⟩)
        (fun x => x.1 ≤ z.length ∧ cutR f t z = cutR f x.2 (z.drop x.1)) (fun x => z.length - x.1) (0, t) ⟨Nat.zero_le _, rfl⟩ (Wk.of [] hfn rfl ?_ ?_) ?_
      · simp only [slI, EnvLe, VLe_refl, Go.Bx.get, ↓reduceIte, and_self, eq_self, Nat.reduceEqDiff, Nat.succ_ne_self, Int.cast_ofNat_Int]
      · simp only [OwnLe, OLe_refl, exists_eq_left', Option.some.injEq, Go.Bx.own?, ↓reduceIte, and_self, eq_self, Nat.reduceEqDiff]
      · rintro ⟨k, to⟩ ⟨hk, hc⟩
        simp only at hk hc
        simp only [slI, vcC_seq, vcC_reg, vcC_drw, vcC_skip, vcC_cond, vcC_block, vcC_exit, seqK_nrm, seqK_exit, blkK_nrm, blkK_exit, lopK_exit, nrmK_app, drwK_app, vcR_nil, vcR_n, vcR_s, isCall, makes, isStore, newOf, opR, binI, pickV, evS, evV, evX, evSs, evVs, evParts, evPartsS, fillV, catV, gOf, Go.Bx.get, Go.Bx.own?, cellsV, isCell, cut, cutD, nth, nthD, putV, toDs, St.stp, Ef.stp, Stp.lg, lgs, setE, applyU, setO, delO, newN, Option.getD_some, Option.map_some, List.all_cons, List.all_nil, List.map_nil, List.append_nil, List.nil_append, List.cons_append, List.length_cons, List.length_nil, List.mem_cons, List.not_mem_nil, Bool.true_and, Bool.and_self, Bool.or_self, Bool.false_eq_true, Bool.cond_false_right, ↓reduceIte, true_and, and_true, and_self, or_false, not_false_eq_true, forall_const, implies_true, imp_self, eq_self, Nat.reduceAdd, Nat.reduceLeDiff, Nat.reduceEqDiff, Nat.zero_add, Nat.add_zero, Nat.le_refl, Nat.succ_ne_self, Int.toNat_natCast, litRow, Nat.reduceLT, decide_true, or_true]
        refine ⟨fun h2 => ?_, fun h2 => ?_⟩
        · have hlt : k < z.length := by simpa using h2
          have hd : z.drop k = z[k] :: z.drop (k + 1) := List.drop_eq_getElem_cons hlt
          have hgd : z.getD k 0 = z[k] := by simp [hlt]
          have hw : IntKind.i64.wrap ((k : Int) + 1) = ((k + 1 : Nat) : Int) := (IntWalk.i64_in _ (by omega)).trans (by omega)
          rw [hgd]
          refine ⟨by omega, fun _ => by omega, rfl, fun h3 => ⟨by omega, ?_⟩, fun h3 => ?_⟩
          · refine lopK.on (k + 1, z[k]) ⟨hlt, ?_⟩ (by simp only; omega) (Wk.of [] hfn rfl ?_ ?_)
            · rw [hc, hd, cutR, if_pos h3]
            · simp only [EnvLe, VLe_refl, VLe_int, Go.Bx.get, ↓reduceIte, true_and, and_true, eq_self, Nat.reduceEqDiff, Nat.succ_ne_self]; exact hw
            · simp only [OwnLe, OLe_refl, exists_eq_left', Option.some.injEq, Go.Bx.own?, ↓reduceIte, and_self, eq_self, Nat.reduceEqDiff]
          · refine lopK.on (k + 1, to) ⟨hlt, ?_⟩ (by simp only; omega) (Wk.of [] hfn rfl ?_ ?_)
            · rw [hc, hd, cutR, if_neg (by rw [h3]; simp)]
            · simp only [EnvLe, VLe_refl, VLe_int, Go.Bx.get, ↓reduceIte, true_and, and_true, eq_self, Nat.reduceEqDiff, Nat.succ_ne_self]; exact hw
            · simp only [OwnLe, OLe_refl, exists_eq_left', Option.some.injEq, Go.Bx.own?, ↓reduceIte, and_self, eq_self, Nat.reduceEqDiff]
        · have hkz : k = z.length := by simp at h2; omega
          have hto : cutR f t z = to := by rw [hc, hkz]; simp [cutR]
          obtain ⟨c1, c2⟩ := cut_in f z t hft
          rw [hto] at c1 c2
          refine ⟨by simp only [maxLen]; omega, ?_⟩
          refine lopK.on (out ++ [(f, to)], to) ⟨by omega, .inr (by simp; omega), n - 1, by omega, ?_⟩ (by simp only; omega) ?_
          · have hn1 : n = n - 1 + 1 := by omega
            rw [he, hn1, partsR, if_pos h1, hto]
            simp
          · refine (Wk.of (b := ⟨[(1, .d (slI z)), (2, .own 2 0), (5, .osl 44)], [(2, .fix [.d (.int .i64 to), .d (.int .i64 t)]), (44, .row 32 2 (out ++ [(f, to)]).length (fun i => [.int .i64 ((out ++ [(f, to)]).getD i (0,0)).1, .int .i64 ((out ++ [(f, to)]).getD i (0,0)).2]))], [2, 44]⟩) [] hfn rfl ?_ ?_).trans
              ((Wk.ren (k := 44) (k' := 1000) (ss := [5]) rfl (by simp) (by simp [Go.Bx.get])).trans (Wk.of [] hfn rfl ?_ ?_))
            · simp only [slI, EnvLe, VLe_refl, Go.Bx.get, ↓reduceIte, and_self, eq_self, Nat.reduceEqDiff]
            · simp only [OwnLe, OLe_refl, exists_eq_left', Option.some.injEq, Go.Bx.own?, ↓reduceIte, true_and, and_true, eq_self, Nat.reduceEqDiff]
              refine OLe.row (by simp) (fun i hi => ?_)
              by_cases h5 : i < out.length
              · simp [h5, List.getElem?_append_left]
              · have h6 : i = out.length := by omega
                subst h6
                simp
            · simp only [slI, EnvLe, VLe_refl, Go.Bx.get, List.map_cons, List.map_nil, List.nil_append, List.cons_append, ↓reduceIte, and_self, eq_self, Nat.reduceEqDiff]
            · simp only [OwnLe, OLe_refl, exists_eq_left', Option.some.injEq, Go.Bx.own?, setO, delO, ↓reduceIte, and_self, eq_self, Nat.reduceEqDiff]
    · have h1 : ¬ manyT (f, t) > 0 := of_decide_eq_false h1
      rw [parts_stop t z n f h1, List.append_nil] at he
      rw [he]
      refine RetK.mk _ (Wk.pub 1000 rfl) (by simp only [rs22, ressS, resS, delO, ↓reduceIte, and_self, eq_self, Nat.reduceEqDiff, pubE, pubV, pubL, pubO]) ?_ trivial
      simp only [rs22, slS, retV, resV, Go.Bx.get, ↓reduceIte, eq_self, pubE, pubV, pubL, VLe_refl]

def addP (acc : Int) (b : List Ent) : Int → List (Int × Int) → Int
  | s, [] => s
  | s, p :: r => addP acc b (IntKind.i64.wrap (s + addR acc (fun d => inR p d) 0 b)) r
theorem addP_eq (acc : Int) (b : List Ent) : ∀ (l : List (Int × Int)) (s : Int), W s = s → addP acc b s l = W (s + sumP acc b l)
  | [], s, h => by simp only [addP, sumP, Int.add_zero, h]
  | p :: r, s, h => by
    simp only [addP, sumP, W_def]
    rw [addP_eq acc b r _ (W_W _), addR_T, W_add', W_add, Int.add_assoc]
theorem parts_eq (acc : Int) (b : List Ent) (p : Int × Int) (z : List Int) : addP acc b 0 (partsR p.2 z (p.2 - p.1).toNat p.1) = addR acc (fun d => inR p d) 0 b := by
  rw [addP_eq acc b _ 0 W_zero, Int.zero_add, parts_sum acc b p.2 z _ p.1 (Nat.le_refl _), addR_T]
theorem parts_len (t : Int) (z : List Int) : ∀ (n : Nat) (f : Int), (partsR t z n f).length ≤ n
  | 0, f => Nat.le_refl 0
  | n + 1, f => by
    rw [partsR]
    split
    · have := parts_len t z n (cutR f t z); simp only [List.length_cons]; omega
    · exact Nat.zero_le _
theorem parts_short (p : Int × Int) (z : List Int) : (partsR p.2 z (p.2 - p.1).toNat p.1).length ≤ 9223372036854775807 := by
  obtain ⟨f, t⟩ := p
  by_cases h : manyT (f, t) > 0
  · have h2 := parts_len t z (t - f).toNat f
    rw [many_pos] at h
    obtain ⟨h, h3⟩ := h
    simp only [okS, Bool.and_eq_true, decide_eq_true_eq] at h
    simp only
    omega
  · rw [parts_stop t z _ f h]; simp

theorem parts_spec (l : List Ent) (p : Int × Int) (z : List Int) (hl : l.length ≤ 9223372036854775807) (hll : ∀ e, e ∈ l → e.ls.length ≤ 9223372036854775807) (hz : z.length ≤ 9223372036854775807) :
    Ctr Try.prog 7 [.d (slB l), vS p, .d (slI z)] [] (.d (.bool true)) [] [] := by
  refine pure7 (by simp) rfl rfl ?_
  intro c hP hfn
  simp only [c7, vS, vcC_seq, vcC_reg, seqK_nrm, nrmK_app, initE, vcR_nil, vcR_n, isCall, makes, newOf, opR, evS, evV, evX, Go.Bx.get, cellsV, isCell, St.stp, Ef.stp, lgs, setE, applyU, setO, newN, Option.getD_some, List.all_cons, List.all_nil, List.not_mem_nil, Bool.and_self, Bool.false_eq_true, reduceCtorEq, ↓reduceIte, true_and, and_self, not_false_eq_true, eq_self, Nat.reduceAdd, Nat.zero_add, Nat.zero_ne_one]
  refine TR.pure (hP ▸ few_spec l hl) (by simp only [evS, evX, evSs, Go.Bx.get, ↓reduceIte, and_self, eq_self]) ?_
  simp only [show slI z = .sl false 1 z.length (fun i => [.int .i64 (z.getD i 0)]) from rfl, vcC_seq, vcC_reg, vcC_skip, vcC_cond, seqK_nrm, nrmK_app, vcR_nil, vcR_n, vcR_s, isCall, makes, isStore, newOf, opR, binI, pickV, evS, evV, evX, gOf, Go.Bx.get, St.stp, Ef.stp, lgs, setE, applyU, newN, Bool.true_and, Bool.or_self, Bool.false_eq_true, Bool.cond_true_left, reduceCtorEq, ↓reduceIte, true_and, and_true, and_self, forall_const, implies_true, imp_self, eq_self, Nat.reduceEqDiff, Nat.succ_ne_self]
  refine ⟨fun h => ?_, fun h => ?_⟩
  · refine TR.pure (hP ▸ alive_spec) (by simp only [evSs]) ?_
    simp only [vcC_ret, seqK_nrm, seqK_ret, nrmK_app, vcR_nil, vcR_n, isCall, makes, newOf, opR, evS, evV, evX, Go.Bx.get, St.stp, Ef.stp, lgs, setE, applyU, newN, Bool.false_eq_true, ↓reduceIte, true_and, eq_self]
    exact RetK.pure (by simp only [rs7, ressS, resS, and_self]) (by simp only [rs7, retV, resV, Go.Bx.get, ↓reduceIte, eq_self, VLe_refl, Go.Bx.get, ↓reduceIte, eq_self])
  · have hok := okB_made l [] okB_nil
    refine TR.pure (hP ▸ made_spec l hl hll) (by simp only [evS, evX, evSs, Go.Bx.get, ↓reduceIte, and_self, eq_self]) ?_
    generalize madeR [] l = b at *
    simp only [vB, vcC_seq, vcC_reg, vcC_block, seqK_nrm, nrmK_app, vcR_nil, vcR_n, isCall, makes, newOf, opR, evS, evV, evX, Go.Bx.get, Go.Bx.own?, cellsV, isCell, putV, St.stp, Ef.stp, lgs, setE, applyU, setO, newN, Option.getD_some, List.all_cons, List.all_nil, List.length_cons, List.length_nil, List.mem_cons, List.not_mem_nil, Bool.and_self, Bool.false_eq_true, ↓reduceIte, true_and, and_self, or_false, not_false_eq_true, eq_self, Nat.reduceEqDiff, Nat.zero_add, Nat.le_refl]
    refine vcC.loop (X := Nat) (fun x => ⟨[(2, .d (slI z)), (4, .own 4 0), (7, .own 7 0), (8, .d (.int .i64 (x + 1 : Nat)))], [(4, .fix [.d (.int .i64 p.1), .d (.int .i64 p.2)]), (7, .fix [.d (slB b)])], [4, 7]⟩)
      (fun x => x ≤ 9) (fun x => 9 - x) 0 (Nat.zero_le _) (Wk.of [] hfn rfl ?_ ?_) ?_
    · simp only [slI, EnvLe, VLe_refl, Go.Bx.get, reduceCtorEq, ↓reduceIte, and_self, eq_self, Nat.reduceEqDiff, Nat.zero_add, Nat.succ_ne_self, Int.cast_ofNat_Int]
    · simp only [OwnLe, OLe_refl, exists_eq_left', Option.some.injEq, Go.Bx.own?, ↓reduceIte, and_self, eq_self, Nat.reduceEqDiff]
    · rintro a ha
      simp only [vcC_seq, vcC_reg, vcC_skip, vcC_cond, vcC_block, vcC_exit, seqK_nrm, seqK_exit, blkK_exit, lopK_exit, nrmK_app, vcR_nil, vcR_n, isCall, makes, newOf, opR, binI, evS, evV, evX, Go.Bx.get, Go.Bx.own?, cut, dropV, takeV, St.stp, Ef.stp, lgs, setE, applyU, newN, List.length_cons, List.length_nil, Bool.false_eq_true, ↓reduceIte, true_and, and_self, eq_self, Nat.reduceAdd, Nat.reduceEqDiff, Nat.zero_add, Nat.le_refl]
      refine ⟨fun h1 => ?_, fun h1 => ?_⟩
      · have hlt : a < 9 := by have := of_decide_eq_true h1; omega
        have hw : IntKind.i64.wrap (((a + 1 : Nat) : Int) + 1) = ((a + 1 + 1 : Nat) : Int) := (IntWalk.i64_in _ (by omega)).trans (by omega)
        refine TR.pure (hP ▸ parts_spec1 p z hz) (by simp only [evS, evX, evSs, Go.Bx.get, ↓reduceIte, and_self, eq_self, Nat.succ_ne_self]) ?_
        have heq := parts_eq ((a + 1 : Nat) : Int) b p z
        have hps := parts_short p z
        generalize partsR p.2 z (p.2 - p.1).toNat p.1 = ps at *
        simp only [show slS ps = .sl false 2 ps.length (fun i => [.int .i64 (ps.getD i (0,0)).1, .int .i64 (ps.getD i (0,0)).2]) from rfl, vcC_block, seqK_nrm, nrmK_app, vcR_nil, vcR_n, isCall, makes, newOf, opR, evS, evV, evX, Go.Bx.get, St.stp, Ef.stp, lgs, setE, applyU, newN, Bool.false_eq_true, ↓reduceIte, true_and, eq_self]
        refine vcC.loop (X := Nat × Int) (fun x => ⟨[(2, .d (slI z)), (4, .own 4 0), (7, .own 7 0), (8, .d (.int .i64 (a + 1 : Nat))), (9, .d (.int .i64 x.2)), (29, .d (slS ps)), (30, .d (.int .i64 ps.length)), (31, .d (.int .i64 x.1))], [(4, .fix [.d (.int .i64 p.1), .d (.int .i64 p.2)]), (7, .fix [.d (slB b)])], [4, 7]⟩)
          (fun x => x.1 ≤ ps.length ∧ addP ((a + 1 : Nat) : Int) b 0 ps = addP ((a + 1 : Nat) : Int) b x.2 (ps.drop x.1)) (fun x => ps.length - x.1) (0, 0) ⟨Nat.zero_le _, rfl⟩ (Wk.of [] hfn rfl ?_ ?_) ?_
        · simp only [slS, EnvLe, VLe_refl, Go.Bx.get, ↓reduceIte, and_self, eq_self, Nat.reduceEqDiff, Nat.succ_ne_self, Int.cast_ofNat_Int]
        · simp only [OwnLe, OLe_refl, exists_eq_left', Option.some.injEq, Go.Bx.own?, ↓reduceIte, and_self, eq_self, Nat.reduceEqDiff]
        · rintro ⟨k, s⟩ ⟨hk, he⟩
          simp only at hk he
          simp only [show slS ps = .sl false 2 ps.length (fun i => [.int .i64 (ps.getD i (0,0)).1, .int .i64 (ps.getD i (0,0)).2]) from rfl, vcC_seq, vcC_reg, vcC_skip, vcC_cond, vcC_block, vcC_exit, seqK_nrm, seqK_exit, blkK_exit, lopK_exit, nrmK_app, vcR_nil, vcR_n, isCall, makes, newOf, opR, binI, evS, evV, evX, Go.Bx.get, Go.Bx.own?, cellsV, isCell, cut, cutD, dropV, takeV, dropD, takeDV, putV, St.stp, Ef.stp, lgs, setE, applyU, setO, newN, Option.getD_some, List.all_cons, List.all_nil, List.length_cons, List.length_nil, List.mem_cons, List.not_mem_nil, Bool.and_self, Bool.false_eq_true, ↓reduceIte, true_and, and_true, and_self, or_false, not_false_eq_true, eq_self, Nat.reduceAdd, Nat.reduceEqDiff, Nat.zero_add, Nat.le_refl, Nat.succ_ne_self, Int.toNat_natCast]
          refine ⟨fun h2 => ?_, fun h2 => ?_⟩
          · have hlk : k < ps.length := by simpa using h2
            have hd : ps.drop k = ps[k] :: ps.drop (k + 1) := List.drop_eq_getElem_cons hlk
            have hgd : ps.getD k (0, 0) = ps[k] := by simp [hlk]
            have hwk : IntKind.i64.wrap ((k : Int) + 1) = ((k + 1 : Nat) : Int) := (IntWalk.i64_in _ (by omega)).trans (by omega)
            rw [hgd]
            refine ⟨by omega, ?_⟩
            refine TR.pure (hP ▸ turn_spec b _ ps[k] (okB_len hok) (okB_lines hok)) (by simp only [evS, evX, evSs, Go.Bx.get, ↓reduceIte, and_self, eq_self, Nat.reduceEqDiff, Nat.succ_ne_self]) ?_
            simp only [vcC_reg, seqK_nrm, blkK_nrm, nrmK_app, vcR_nil, vcR_n, isCall, makes, newOf, opR, binI, evS, evV, evX, Go.Bx.get, St.stp, Ef.stp, lgs, setE, applyU, newN, Bool.false_eq_true, ↓reduceIte, true_and, and_self, eq_self, Nat.reduceEqDiff, Nat.succ_ne_self]
            refine lopK.on (k + 1, IntKind.i64.wrap (s + addR ((a + 1 : Nat) : Int) (fun d => inR ps[k] d) 0 b)) ⟨hlk, ?_⟩ (by simp only; omega) (Wk.of [] hfn rfl ?_ ?_)
            · rw [he, hd, addP]
            · simp only [EnvLe, VLe_refl, VLe_int, Go.Bx.get, ↓reduceIte, true_and, and_true, eq_self, Nat.reduceEqDiff, Nat.succ_ne_self]; exact hwk
            · simp only [OwnLe, OLe_refl, exists_eq_left', Option.some.injEq, Go.Bx.own?, ↓reduceIte, and_self, eq_self, Nat.reduceEqDiff]
          · have hkl : k = ps.length := by simp at h2; omega
            have hs : s = addR ((a + 1 : Nat) : Int) (fun d => inR p d) 0 b := by rw [← heq, he, hkl]; simp [addP]
            refine TR.pure (hP ▸ turn_spec b _ p (okB_len hok) (okB_lines hok)) (by simp only [evS, evX, evSs, Go.Bx.get, ↓reduceIte, and_self, eq_self, Nat.reduceEqDiff, Nat.succ_ne_self]) ?_
            simp only [vcC_seq, vcC_reg, vcC_skip, vcC_cond, vcC_ret, seqK_nrm, seqK_ret, blkK_nrm, blkK_ret, lopK_ret, nrmK_app, vcR_nil, vcR_n, isCall, makes, newOf, opR, binI, evS, evV, evX, Go.Bx.get, St.stp, Ef.stp, lgs, setE, applyU, newN, Bool.false_eq_true, ↓reduceIte, true_and, and_self, eq_self, Nat.reduceEqDiff, Nat.succ_ne_self]
            refine ⟨fun h3 => ?_, fun h3 => ?_⟩
            · rw [hs] at h3; simp at h3
            · refine lopK.on (a + 1) hlt (by omega) (Wk.of [] hfn rfl ?_ ?_)
              · simp only [EnvLe, VLe_refl, VLe_int, Go.Bx.get, ↓reduceIte, true_and, and_true, eq_self, Nat.reduceEqDiff, Nat.succ_ne_self]; exact hw
              · simp only [OwnLe, OLe_refl, exists_eq_left', Option.some.injEq, Go.Bx.own?, ↓reduceIte, and_self, eq_self, Nat.reduceEqDiff]
      · refine TR.pure (hP ▸ alive_spec) (by simp only [evSs]) ?_
        simp only [vcC_ret, seqK_nrm, nrmK_app, vcR_nil, vcR_n, isCall, makes, newOf, opR, evS, evV, evX, Go.Bx.get, St.stp, Ef.stp, lgs, setE, applyU, newN, Bool.false_eq_true, ↓reduceIte, true_and, eq_self]
        exact RetK.pure (by simp only [rs7, ressS, resS, and_self]) (by simp only [rs7, retV, resV, Go.Bx.get, ↓reduceIte, eq_self, VLe_refl, Go.Bx.get, ↓reduceIte, eq_self])

end Go.Proofs.Ytllakgjfgdgfiaa
