import Derived.Test.YtolhfgjekomaaaaA
import Derived.Test.YtolhfgjekomaaaaR
import Derived.Test.YtolhfgjekomaaaaH
namespace Go.Proofs.Ytolhfgjekomaaaa
open Go.Bx
set_option maxRecDepth 10000

/-! One quota. -/
def bearsQ (t : Tr) (x : Ls) : Int × Bool := if t.kind = 1 ∧ takesT t x = true then ((bpR x.amt t.bp).1, true) else (0, false)
theorem right_bp {t : Tr} (h : rightT t = true) (hk : t.kind = 1) : 1 ≤ t.bp ∧ t.bp ≤ 10000 := by
  unfold rightT at h
  simp only [hk, if_true, Bool.and_eq_true, inB_iff] at h
  exact h.2.1
theorem q31 (t : Tr) (x : Ls) : Ctr Try.prog 31 [vT t, vX x] [] (.tup [.d (.int .i64 (bearsQ t x).1), .d (.bool (bearsQ t x).2)]) [] [] := by
  refine pure31 (by simp) rfl rfl ?_; intro c hP hfn; simp only [c31, vT, vX, cT, cX', vcC_seq, vcC_reg, seqK_nrm, nrmK_app, initE, vcR_nil, vcR_n, vcR_s, isCall, makes, hasU, newOf, opR, binI, evS, evV, evX, gOf, Go.Bx.get, Go.Bx.own?, cellsV, isCell, cut, nth, dropV, takeV, St.stp, Ef.stp, lgs, setE, applyU, setO, newN, Option.getD_some, List.all_cons, List.all_nil, List.length_cons, List.length_nil, List.mem_cons, List.not_mem_nil, Bool.and_self, Bool.false_eq_true, ↓reduceIte, true_and, and_self, or_false, not_false_eq_true, implies_true, eq_self, Nat.reduceAdd, Nat.reduceLeDiff, Nat.reduceEqDiff, Nat.zero_add, Nat.le_refl, Nat.succ_ne_self, Nat.zero_ne_one]
  repeat' first
      | (first
          | refine TR.p hP (by first | exact s23 t x) (by repeat' first | exact trivial | (intro _; assumption) | apply And.intro) ?_
          | refine TR.gp hP rfl (fun _ => by first | exact s23 t x) (fun _ => by repeat' first | exact trivial | (intro _; assumption) | apply And.intro) ?_
          | refine TR.pv hP rfl (by first | exact s23 t x) trivial (by repeat' first | exact trivial | (intro _; assumption) | apply And.intro) ?_
         try simp only [vcC_seq, vcC_reg, vcC_skip, vcC_cond, vcC_ret, seqK_nrm, seqK_ret, nrmK_app, vcR_nil, vcR_n, vcR_s, isCall, makes, hasU, newOf, opR, pickV, evS, evV, evX, gOf, Go.Bx.get, Go.Bx.own?, cut, nth, St.stp, Ef.stp, lgs, setE, applyU, newN, Option.getD_some, List.length_cons, List.length_nil, List.mem_cons, List.not_mem_nil, Bool.true_and, Bool.false_eq_true, Bool.cond_true_left, ↓reduceIte, true_and, and_self, or_false, not_false_eq_true, forall_const, implies_true, imp_self, eq_self, Nat.reduceAdd, Nat.reduceLeDiff, Nat.reduceEqDiff, Nat.zero_add, Nat.le_refl, Nat.succ_ne_self])
      | refine And.intro (fun h => ?_) (fun h => ?_)
      | refine And.intro (by first | omega | (simp only [maxLen, decide_eq_true_eq, decide_eq_false_iff_not] at *; omega)) ?_
      | refine And.intro rfl ?_
      | fail
  · have e : bearsQ t x = (0, false) := by
      rw [bearsQ, if_neg]; rintro ⟨h1, h2⟩; simp [h1, h2] at h
    (refine RetK.pure (by simp only [rs31, ressS, resS, and_self]) (VLe.tups ?_); simp only [ressV, resV, Go.Bx.get, ↓reduceIte, eq_self, Nat.succ_ne_self])
    rw [e]; exact ⟨VLe.refl _, VLe.refl _, trivial⟩
  have h1 : t.kind = 1 ∧ takesT t x = true := by simpa using h
  have hr := takes_right h1.2
  have hb := right_bp hr.1 h1.1
  have ha := (lossX_iff.1 hr.2).2.2.2.2
  have e : bearsQ t x = ((bpR x.amt t.bp).1, true) := by rw [bearsQ, if_pos h1]
  repeat' first
      | (first
          | refine TR.p hP (by first | exact sBp x.amt t.bp (by omega) (by omega)) (by repeat' first | exact trivial | (intro _; assumption) | apply And.intro) ?_
          | refine TR.gp hP rfl (fun _ => by first | exact sBp x.amt t.bp (by omega) (by omega)) (fun _ => by repeat' first | exact trivial | (intro _; assumption) | apply And.intro) ?_
          | refine TR.pv hP rfl (by first | exact sBp x.amt t.bp (by omega) (by omega)) trivial (by repeat' first | exact trivial | (intro _; assumption) | apply And.intro) ?_
         try simp only [vcC_seq, vcC_reg, vcC_ret, seqK_nrm, nrmK_app, vcR_nil, vcR_n, isCall, makes, newOf, opR, evS, evV, evX, Go.Bx.get, nth, St.stp, Ef.stp, lgs, setE, applyU, newN, List.length_cons, List.length_nil, Bool.false_eq_true, ↓reduceIte, true_and, and_self, eq_self, Nat.reduceAdd, Nat.reduceEqDiff, Nat.zero_add, Nat.succ_ne_self, Nat.reduceLT])
      | refine And.intro (fun h => ?_) (fun h => ?_)
      | refine And.intro (by first | omega | (simp only [maxLen, decide_eq_true_eq, decide_eq_false_iff_not] at *; omega)) ?_
      | refine And.intro rfl ?_
      | fail
  (refine RetK.pure (by simp only [rs31, ressS, resS, and_self]) (VLe.tups ?_); simp only [ressV, resV, Go.Bx.get, ↓reduceIte, eq_self, Nat.succ_ne_self])
  rw [e]; exact ⟨VLe.refl _, VLe.refl _, trivial⟩
theorem q32 (t : Tr) (x : Ls) (hp : x.per ≤ 9223372036854775807) : Ctr Try.prog 32 [vT t, vX x] [] (.tup [.d (.int .i64 (bearsQ t x).1), .d (.bool (bearsQ t x).2)]) [] [] := by
  refine pure32 (by simp) rfl rfl ?_; intro c hP hfn; simp only [c32, vT, vX, cT, cX', vcC_seq, vcC_reg, seqK_nrm, nrmK_app, initE, vcR_nil, vcR_n, vcR_s, isCall, makes, hasU, newOf, opR, binI, evS, evV, evX, gOf, Go.Bx.get, Go.Bx.own?, cellsV, isCell, cut, nth, dropV, takeV, St.stp, Ef.stp, lgs, setE, applyU, setO, newN, Option.getD_some, List.all_cons, List.all_nil, List.length_cons, List.length_nil, List.mem_cons, List.not_mem_nil, Bool.and_self, Bool.false_eq_true, ↓reduceIte, true_and, and_self, or_false, not_false_eq_true, implies_true, eq_self, Nat.reduceAdd, Nat.reduceLeDiff, Nat.reduceEqDiff, Nat.zero_add, Nat.le_refl, Nat.succ_ne_self, Nat.zero_ne_one]
  repeat' first
      | (first
          | refine TR.p hP (by first | exact s30 t x hp) (by repeat' first | exact trivial | (intro _; assumption) | apply And.intro) ?_
          | refine TR.gp hP rfl (fun _ => by first | exact s30 t x hp) (fun _ => by repeat' first | exact trivial | (intro _; assumption) | apply And.intro) ?_
          | refine TR.pv hP rfl (by first | exact s30 t x hp) trivial (by repeat' first | exact trivial | (intro _; assumption) | apply And.intro) ?_
         try simp only [vcC_seq, vcC_reg, vcC_skip, vcC_cond, vcC_ret, seqK_nrm, seqK_ret, nrmK_app, vcR_nil, vcR_n, vcR_s, isCall, makes, hasU, newOf, opR, pickV, evS, evV, evX, gOf, Go.Bx.get, Go.Bx.own?, cut, nth, St.stp, Ef.stp, lgs, setE, applyU, newN, Option.getD_some, List.length_cons, List.length_nil, List.mem_cons, List.not_mem_nil, Bool.true_and, Bool.false_eq_true, Bool.cond_true_left, ↓reduceIte, true_and, and_self, or_false, not_false_eq_true, forall_const, implies_true, imp_self, eq_self, Nat.reduceAdd, Nat.reduceLeDiff, Nat.reduceEqDiff, Nat.zero_add, Nat.le_refl, Nat.succ_ne_self])
      | refine And.intro (fun h => ?_) (fun h => ?_)
      | refine And.intro (by first | omega | (simp only [maxLen, decide_eq_true_eq, decide_eq_false_iff_not] at *; omega)) ?_
      | refine And.intro rfl ?_
      | fail
  · have e : bearsQ t x = (0, false) := by
      rw [bearsQ, if_neg]; rintro ⟨h1, h2⟩; simp [h1, h2] at h
    (refine RetK.pure (by simp only [rs32, ressS, resS, and_self]) (VLe.tups ?_); simp only [ressV, resV, Go.Bx.get, ↓reduceIte, eq_self, Nat.succ_ne_self])
    rw [e]; exact ⟨VLe.refl _, VLe.refl _, trivial⟩
  have h1 : t.kind = 1 ∧ takesT t x = true := by simpa using h
  have hr := takes_right h1.2
  have hb := right_bp hr.1 h1.1
  have ha := (lossX_iff.1 hr.2).2.2.2.2
  have e : bearsQ t x = ((bpR x.amt t.bp).1, true) := by rw [bearsQ, if_pos h1]
  repeat' first
      | (first
          | refine TR.p hP (by first | exact rBp x.amt t.bp (by omega) (by omega)) (by repeat' first | exact trivial | (intro _; assumption) | apply And.intro) ?_
          | refine TR.gp hP rfl (fun _ => by first | exact rBp x.amt t.bp (by omega) (by omega)) (fun _ => by repeat' first | exact trivial | (intro _; assumption) | apply And.intro) ?_
          | refine TR.pv hP rfl (by first | exact rBp x.amt t.bp (by omega) (by omega)) trivial (by repeat' first | exact trivial | (intro _; assumption) | apply And.intro) ?_
         try simp only [vcC_seq, vcC_reg, vcC_ret, seqK_nrm, nrmK_app, vcR_nil, vcR_n, isCall, makes, newOf, opR, evS, evV, evX, Go.Bx.get, nth, St.stp, Ef.stp, lgs, setE, applyU, newN, List.length_cons, List.length_nil, Bool.false_eq_true, ↓reduceIte, true_and, and_self, eq_self, Nat.reduceAdd, Nat.reduceEqDiff, Nat.zero_add, Nat.succ_ne_self, Nat.reduceLT])
      | refine And.intro (fun h => ?_) (fun h => ?_)
      | refine And.intro (by first | omega | (simp only [maxLen, decide_eq_true_eq, decide_eq_false_iff_not] at *; omega)) ?_
      | refine And.intro rfl ?_
      | fail
  (refine RetK.pure (by simp only [rs32, ressS, resS, and_self]) (VLe.tups ?_); simp only [ressV, resV, Go.Bx.get, ↓reduceIte, eq_self, Nat.succ_ne_self])
  rw [e]; exact ⟨VLe.refl _, VLe.refl _, trivial⟩

/-! Sums. -/
def sumW : Int → List Int → Int
  | n, [] => n
  | n, p :: r => sumW (IntKind.i64.wrap (n + p)) r
theorem sumW_eq : ∀ (l : List Int) (n : Int), 0 ≤ n → (∀ x, x ∈ l → 0 ≤ x) → n + l.sum ≤ 9223372036854775807 → sumW n l = n + l.sum
  | [], n, _, _, _ => by simp [sumW]
  | p :: r, n, h0, hx, hs => by
    have hp := hx p (by simp)
    have hr : 0 ≤ r.sum := by
      have : ∀ l : List Int, (∀ x, x ∈ l → 0 ≤ x) → 0 ≤ l.sum := by
        intro l
        induction l with
        | nil => intro _; simp
        | cons a t ih => intro h; have h1 := h a (by simp); have h2 := ih (fun x hx => h x (by simp [hx])); simp only [List.sum_cons]; omega
      exact this r (fun x h => hx x (by simp [h]))
    rw [List.sum_cons] at hs ⊢
    rw [sumW, wI (by omega), sumW_eq r (n + p) (by omega) (fun x h => hx x (by simp [h])) (by omega)]
    omega
theorem q49 (l : List Int) (hl : l.length ≤ 9223372036854775807) : Ctr Try.prog 49 [.d (slK .i64 l)] [] (.d (.int .i64 (sumW 0 l))) [] [] := by
  refine pure49 (by simp) rfl rfl ?_; intro c hP hfn; simp only [c49, vcC_seq, vcC_reg, vcC_block, seqK_nrm, nrmK_app, initE, vcR_nil, vcR_n, isCall, makes, slK, newOf, opR, evS, evV, evX, Go.Bx.get, St.stp, Ef.stp, lgs, setE, applyU, newN, Bool.false_eq_true, reduceCtorEq, ↓reduceIte, true_and, eq_self]
  refine vcC.loop (X := Nat × Int) (fun x => ⟨[(3, .d (.int .i64 x.2)), (6, .d (slK .i64 l)), (7, .d (.int .i64 l.length)), (8, .d (.int .i64 x.1))], [], []⟩)
    (fun x => x.1 ≤ l.length ∧ sumW 0 l = sumW x.2 (l.drop x.1)) (fun x => l.length - x.1) (0, 0) ⟨Nat.zero_le _, rfl⟩ (Wk.of [] hfn rfl (by (simp only [EnvLe, VLe_refl, slK, Go.Bx.get, ↓reduceIte, and_self, eq_self, Nat.reduceEqDiff, Nat.succ_ne_self, Int.cast_ofNat_Int]) <;> (first | exact wS (by omega) | (rw [List.length_append]; exact wS (by omega)) | assumption)) (by simp only [OwnLe])) ?_
  rintro ⟨k, n⟩ ⟨hk, he⟩
  simp only at hk he
  simp only [vcC_seq, vcC_reg, vcC_skip, vcC_cond, vcC_block, vcC_exit, vcC_ret, seqK_nrm, seqK_exit, blkK_nrm, blkK_exit, lopK_exit, nrmK_app, vcR_nil, vcR_n, isCall, makes, slK, newOf, opR, binI, evS, evV, evX, Go.Bx.get, cutD, nthD, St.stp, Ef.stp, lgs, setE, applyU, newN, List.length_cons, List.length_nil, Bool.false_eq_true, ↓reduceIte, true_and, and_true, and_self, eq_self, Nat.reduceEqDiff, Nat.zero_add, Nat.le_refl, Nat.succ_ne_self, Int.toNat_natCast]
  refine ⟨fun h1 => ?_, fun h1 => ?_⟩
  · have hlt : k < l.length := by have := of_decide_eq_true h1; omega
    obtain ⟨x, hd, hg, -, -⟩ := drop_at hlt
    simp only [hg]
    rw [hd, sumW] at he
    refine ⟨by omega, ?_⟩
    exact lopK.on (k + 1, IntKind.i64.wrap (n + x)) ⟨hlt, he⟩ (by simp only; omega) (Wk.of [] hfn rfl (by (simp only [EnvLe, VLe_refl, VLe_int, Go.Bx.get, ↓reduceIte, true_and, and_true, eq_self, Nat.reduceEqDiff, Nat.succ_ne_self]) <;> (first | exact wS (by omega) | (rw [List.length_append]; exact wS (by omega)) | assumption)) (by simp only [OwnLe]))
  · have hkl : k = l.length := by have := of_decide_eq_false h1; omega
    rw [hkl, List.drop_length, sumW] at he
    repeat' first
        | (first
            | refine TR.p hP (by first | fail) (by repeat' first | exact trivial | (intro _; assumption) | apply And.intro) ?_
            | refine TR.gp hP rfl (fun _ => by first | fail) (fun _ => by repeat' first | exact trivial | (intro _; assumption) | apply And.intro) ?_
            | refine TR.pv hP rfl (by first | fail) trivial (by repeat' first | exact trivial | (intro _; assumption) | apply And.intro) ?_
           try simp only [↓evSo_some, vcC_seq, vcC_reg, vcC_drw, vcC_skip, vcC_cond, vcC_block, vcC_exit, vcC_ret, vcC_bad, seqK_nrm, seqK_exit, seqK_ret, blkK_nrm, blkK_exit, blkK_ret, lopK_exit, lopK_ret, lopX_exit, lopX_ret, nrmK_app, drwK_app, initE, vcR_nil, vcR_n, vcR_s, isCall, makes, hasU, slK, newOf, opR, binI, pickV, evS, evV, evX, evSs, evVs, evParts, evPartsS, fillV, catV, gOf, Go.Bx.get, Go.Bx.own?, cellsV, isCell, cut, cutD, nth, nthD, dropV, takeV, dropD, takeDV, putV, toDs, St.stp, Ef.stp, Stp.lg, lgs, setE, applyU, setO, delO, newN, keysO, callU, Ef.bad, Option.getD_some, Option.getD_none, Option.map_some, Option.map_none, List.all_cons, List.all_nil, List.map_cons, List.map_nil, List.append_nil, List.nil_append, List.cons_append, List.length_cons, List.length_nil, List.mem_cons, List.not_mem_nil, Bool.and_true, Bool.true_and, Bool.and_self, Bool.not_true, Bool.not_false, Bool.or_self, Bool.or_false, Bool.false_or, Bool.false_eq_true, Bool.true_eq_false, Bool.cond_true_left, Bool.cond_false_right, cond_true, cond_false, reduceCtorEq, ↓reduceIte, if_true, if_false, true_and, and_true, and_self, false_and, and_false, or_false, false_or, not_false_eq_true, not_true_eq_false, forall_const, true_implies, false_implies, implies_true, imp_self, eq_self, ne_eq, Nat.reduceAdd, Nat.reduceSub, Nat.reduceMul, Nat.reduceLeDiff, Nat.reduceEqDiff, Nat.zero_add, Nat.add_zero, Nat.le_refl, Nat.succ_ne_self, Nat.one_ne_zero, Nat.zero_ne_one, Int.toNat_natCast, litRow, List.drop_succ_cons, List.drop_zero, List.take_succ_cons, List.take_zero, pubE, pubV, pubL, pubO, eqS, eqB, Nat.reduceLT, Nat.not_lt_zero, Nat.sub_zero, decide_true, decide_false, true_or, or_true, Int.le_refl, Int.cast_ofNat_Int, Int.reduceToNat, Int.reduceLT, Int.reduceLE, beq_self_eq_true, Nat.mul_one, Nat.one_mul, Nat.zero_mul])
        | refine And.intro (fun h => ?_) (fun h => ?_)
        | refine And.intro (by first | omega | (simp only [maxLen, decide_eq_true_eq, decide_eq_false_iff_not] at *; omega)) ?_
        | refine And.intro rfl ?_
        | fail
    exact RetK.pure (by simp only [rs49, ressS, resS, and_self]) (by (simp only [rs49, retV, resV, Go.Bx.get, ↓reduceIte, eq_self, VLe_int, Go.Bx.get, ↓reduceIte, eq_self]) <;> (first | rw [he]))

def mQ (t : Tr) (x : Ls) : Int := (heN x.amt.toNat t.bp.toNat : Nat)
theorem bears_m {t : Tr} {x : Ls} (h1 : t.kind = 1) (h2 : takesT t x = true) : (bpR x.amt t.bp).1 = mQ t x ∧ 0 ≤ mQ t x ∧ mQ t x ≤ x.amt ∧ x.amt ≤ 1000000000000000 ∧ 1 ≤ t.bp ∧ t.bp ≤ 10000 := by
  have hr := takes_right h2
  have hb := right_bp hr.1 h1
  have ha := (lossX_iff.1 hr.2).2.2.2.2
  have e1 : x.amt = (x.amt.toNat : Int) := by omega
  have e2 : t.bp = (t.bp.toNat : Int) := by omega
  have h3 := bp_he (x := x.amt.toNat) (b := t.bp.toNat) (by omega) (by omega)
  have h4 := he_le (x := x.amt.toNat) (b := t.bp.toNat) (by omega)
  rw [← e1, ← e2] at h3
  rw [h3]
  refine ⟨rfl, ?_, ?_, by omega, hb⟩ <;> unfold mQ <;> omega
theorem bearsQ_eq (t : Tr) (x : Ls) : bearsQ t x = if t.kind = 1 ∧ takesT t x = true then (mQ t x, true) else (0, false) := by
  unfold bearsQ
  split
  · rename_i h; rw [(bears_m h.1 h.2).1]
  · rfl
def okQ (t : Tr) : Bool := t.kind == 1 && rightT t
def netP (x : Ls) (ts : List Tr) : List Int := (ts.filter (takesT · x)).map (·.bp)
def netB (x : Ls) (ts : List Tr) : List Int := (ts.filter (takesT · x)).map (mQ · x)
def netR (ts : List Tr) (x : Ls) : Int × Int :=
  if ts.all okQ = false then (0, 1) else if lossX x = false then (0, 1) else if 10000 < (netP x ts).sum then (0, 13) else (max 0 (x.amt - (netB x ts).sum), 0)
theorem net_snoc (x : Ls) (ts : List Tr) (t : Tr) : netP x (ts ++ [t]) = netP x ts ++ (if takesT t x = true then [t.bp] else []) ∧ netB x (ts ++ [t]) = netB x ts ++ (if takesT t x = true then [mQ t x] else []) := by
  unfold netP netB
  rw [List.filter_append, List.map_append, List.map_append]
  by_cases h : takesT t x = true
  · rw [if_pos h, if_pos h]; simp [h]
  · rw [if_neg h, if_neg h]; simp [h]
theorem okQ_iff {t : Tr} : okQ t = true ↔ t.kind = 1 ∧ rightT t = true := by simp [okQ]
/-- What the parts, and what is borne, come to. -/
theorem net_bounds (x : Ls) : ∀ {ts : List Tr}, (∀ t, t ∈ ts → okQ t = true) →
    (netP x ts).length ≤ ts.length ∧ (netB x ts).length = (netP x ts).length ∧ (∀ p, p ∈ netP x ts → 0 ≤ p) ∧ (∀ p, p ∈ netB x ts → 0 ≤ p) ∧
    0 ≤ (netP x ts).sum ∧ (netP x ts).sum ≤ ts.length * 10000 ∧ 0 ≤ (netB x ts).sum ∧ (netB x ts).sum ≤ ts.length * 1000000000000000
  | [], _ => by simp [netP, netB]
  | t :: r, h => by
    have ih := net_bounds x (ts := r) (fun y hy => h y (by simp [hy]))
    obtain ⟨i1, i2, i3, i4, i5, i6, i7, i8⟩ := ih
    by_cases ht : takesT t x = true
    · have hm := bears_m (okQ_iff.1 (h t (by simp))).1 ht
      have e1 : netP x (t :: r) = t.bp :: netP x r := by simp [netP, ht]
      have e2 : netB x (t :: r) = mQ t x :: netB x r := by simp [netB, ht]
      rw [e1, e2]
      simp only [List.length_cons, List.sum_cons, List.mem_cons]
      refine ⟨by omega, by omega, ?_, ?_, by omega, by omega, by omega, by omega⟩
      · rintro p (rfl | hp)
        · omega
        · exact i3 p hp
      · rintro p (rfl | hp)
        · omega
        · exact i4 p hp
    · have e1 : netP x (t :: r) = netP x r := by simp [netP, ht]
      have e2 : netB x (t :: r) = netB x r := by simp [netB, ht]
      rw [e1, e2]
      simp only [List.length_cons]
      exact ⟨by omega, i2, i3, i4, i5, by omega, i7, by omega⟩
end Go.Proofs.Ytolhfgjekomaaaa
