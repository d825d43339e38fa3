import Derived.Test.YtllakgjfgdgfiaaA
namespace Go.Proofs.Ytllakgjfgdgfiaa
open Go.Bx

def sumR : Int → List (Int × Int) → Int
  | s, [] => s
  | s, l :: r => sumR (IntKind.i64.wrap (s + l.2)) r

theorem sum_spec (e : Ent) (hl : e.ls.length ≤ 9223372036854775807) : Ctr Try.prog 27 [vE e] [] (.d (.int .i64 (sumR 0 e.ls))) [] [] := by
  obtain ⟨day, fo, ls⟩ := e
  simp only at hl
  refine pure27 (by simp) rfl rfl ?_
  intro c hP hfn
  simp only [c27, vE, vcC_seq, vcC_reg, vcC_block, seqK_nrm, nrmK_app, initE, vcR_nil, vcR_n, isCall, makes, newOf, opR, evS, evV, evX, Go.Bx.get, cellsV, isCell, St.stp, Ef.stp, lgs, setE, applyU, setO, newN, Option.getD_some, List.all_cons, List.all_nil, List.not_mem_nil, Bool.and_self, Bool.false_eq_true, ↓reduceIte, true_and, and_self, not_false_eq_true, eq_self]
  refine vcC.loop (X := Nat × Int) (fun x => ⟨[(1, .own 1 0), (3, .d (.int .i64 x.2)), (4, .d (.int .i64 x.1))],
     [(1, .fix [.d (.int .i64 day), .d (.int .i64 fo), .d (slL ls)])], [1]⟩)
    (fun x => x.1 ≤ ls.length ∧ sumR 0 ls = sumR x.2 (ls.drop x.1)) (fun x => ls.length - x.1) (0, 0) ⟨Nat.zero_le _, rfl⟩ (Wk.of [] hfn rfl ?_ ?_) ?_
  · simp only [EnvLe, VLe_refl, Go.Bx.get, ↓reduceIte, and_self, eq_self, Nat.reduceEqDiff, Nat.succ_ne_self, Int.cast_ofNat_Int]
  · simp only [OwnLe, OLe_refl, exists_eq_left', Option.some.injEq, Go.Bx.own?, ↓reduceIte, and_self, eq_self]
  · rintro ⟨k, s⟩ ⟨hk, he⟩
    simp only at hk he
    simp only [slL, vcC_seq, vcC_reg, vcC_skip, vcC_cond, vcC_block, vcC_exit, vcC_ret, seqK_nrm, seqK_exit, blkK_nrm, blkK_exit, lopK_exit, nrmK_app, vcR_nil, vcR_n, isCall, makes, newOf, opR, binI, evS, evV, evX, Go.Bx.get, Go.Bx.own?, cut, cutD, nth, nthD, dropD, St.stp, Ef.stp, lgs, setE, applyU, newN, List.length_cons, List.length_nil, Bool.false_eq_true, ↓reduceIte, true_and, and_true, and_self, eq_self, Nat.reduceAdd, Nat.reduceLeDiff, Nat.reduceEqDiff, Nat.zero_add, Nat.le_refl, Nat.succ_ne_self, Int.toNat_natCast]
    refine ⟨fun h1 => ?_, fun h1 => ?_⟩
    · have hlt : k < ls.length := by simpa using h1
      have hd : ls.drop k = ls[k] :: ls.drop (k + 1) := List.drop_eq_getElem_cons hlt
      have hg : ls.getD k (0, 0) = ls[k] := by simp [hlt]
      have hw : IntKind.i64.wrap ((k : Int) + 1) = ((k + 1 : Nat) : Int) := (IntWalk.i64_in _ (by omega)).trans (by omega)
      rw [hg]
      refine ⟨by omega, lopK.on (k + 1, IntKind.i64.wrap (s + ls[k].2)) ⟨hlt, ?_⟩ (by simp only; omega) (Wk.of [] hfn rfl ?_ ?_)⟩
      · rw [he, hd, sumR]
      · simp only [EnvLe, VLe_refl, VLe_int, Go.Bx.get, ↓reduceIte, true_and, and_true, eq_self, Nat.reduceEqDiff, Nat.succ_ne_self]; exact hw
      · simp only [OwnLe, OLe_refl, exists_eq_left', Option.some.injEq, Go.Bx.own?, ↓reduceIte, and_self, eq_self]
    · have hkl : k = ls.length := by simp at h1; omega
      have : sumR 0 ls = s := by rw [he, hkl]; simp [sumR]
      exact RetK.pure (by simp only [rs27, ressS, resS, and_self]) (by simp only [rs27, retV, resV, Go.Bx.get, ↓reduceIte, eq_self, VLe_refl, Go.Bx.get, ↓reduceIte, eq_self, this])

def badR (l : Int × Int) : Bool := ((((decide (l.1 < 1) || decide (l.1 > 9)) || (l.2 == 0)) || decide (l.2 < -1000000000000000)) || decide (l.2 > 1000000000000000))
def rgo : Int → List (Int × Int) → Bool
  | _, [] => true
  | la, l :: r => if badR l = true then false else if l.1 ≤ la then false else rgo l.1 r
def rformR (e : Ent) : Bool :=
  if (((((decide (e.day < 1) || decide (e.day > 292194)) || decide (e.fo < 0)) || decide (e.fo > 1000000000)) || decide ((e.ls.length : Int) < 2)) || decide ((e.ls.length : Int) > 9)) = true then false else rgo 0 e.ls

theorem rform_spec (e : Ent) (hl : e.ls.length ≤ 9223372036854775807) : Ctr Try.prog 26 [vE e] [] (.d (.bool (rformR e))) [] [] := by
  obtain ⟨day, fo, ls⟩ := e
  simp only at hl
  refine pure26 (by simp) rfl rfl ?_
  intro c hP hfn
  simp only [c26, vE, slL, vcC_seq, vcC_reg, vcC_skip, vcC_cond, vcC_block, vcC_ret, seqK_nrm, seqK_ret, nrmK_app, initE, vcR_nil, vcR_n, vcR_s, isCall, makes, isStore, newOf, opR, binI, pickV, evS, evV, evX, gOf, Go.Bx.get, Go.Bx.own?, cellsV, isCell, cut, nth, St.stp, Ef.stp, lgs, setE, applyU, setO, newN, Option.getD_some, List.all_cons, List.all_nil, List.length_cons, List.length_nil, List.not_mem_nil, Bool.true_and, Bool.and_self, Bool.or_self, Bool.false_eq_true, Bool.cond_true_left, ↓reduceIte, true_and, and_true, and_self, not_false_eq_true, forall_const, implies_true, imp_self, eq_self, Nat.reduceAdd, Nat.reduceLeDiff, Nat.reduceEqDiff, Nat.zero_add, Nat.add_zero, Nat.le_refl, Nat.succ_ne_self]
  refine ⟨fun h => ?_, fun h => ?_⟩
  · have : rformR ⟨day, fo, ls⟩ = false := by rw [rformR, if_pos h]
    exact RetK.pure (by simp only [rs26, ressS, resS, and_self]) (by simp only [rs26, retV, resV, Go.Bx.get, ↓reduceIte, eq_self, VLe_refl, Go.Bx.get, ↓reduceIte, eq_self, this])
  have hr : rformR ⟨day, fo, ls⟩ = rgo 0 ls := by rw [rformR, if_neg]; simp only; rw [h]; simp
  refine vcC.loop (X := Nat) (fun x => ⟨[(1, .own 1 0), (3, .d (.int .i64 x))],
     [(1, .fix [.d (.int .i64 day), .d (.int .i64 fo), .d (slL ls)])], [1]⟩)
    (fun x => x ≤ ls.length ∧ rgo 0 ls = rgo (if x = 0 then 0 else (ls.getD (x - 1) (0, 0)).1) (ls.drop x)) (fun x => ls.length - x) 0 ⟨Nat.zero_le _, rfl⟩ (Wk.of [] hfn rfl ?_ ?_) ?_
  · simp only [EnvLe, VLe_refl, Go.Bx.get, ↓reduceIte, and_self, eq_self, Nat.reduceEqDiff, Nat.succ_ne_self, Int.cast_ofNat_Int]
  · simp only [slL, OwnLe, OLe_refl, exists_eq_left', Option.some.injEq, Go.Bx.own?, ↓reduceIte, and_self, eq_self]
  · rintro k ⟨hk, he⟩
    simp only [slL, vcC_seq, vcC_reg, vcC_drw, vcC_skip, vcC_cond, vcC_block, vcC_exit, vcC_ret, seqK_nrm, seqK_exit, seqK_ret, blkK_nrm, blkK_exit, blkK_ret, lopK_exit, lopK_ret, nrmK_app, drwK_app, vcR_nil, vcR_n, vcR_s, isCall, makes, isStore, newOf, opR, binI, pickV, evS, evV, evX, gOf, Go.Bx.get, Go.Bx.own?, cellsV, isCell, cut, cutD, nth, nthD, dropD, takeDV, putV, St.stp, Ef.stp, Stp.lg, lgs, setE, applyU, setO, newN, Option.getD_some, List.all_cons, List.all_nil, List.map_nil, List.append_nil, List.nil_append, List.cons_append, List.length_cons, List.length_nil, List.mem_cons, List.not_mem_nil, Bool.true_and, Bool.and_self, Bool.or_self, Bool.false_eq_true, Bool.cond_true_left, Bool.cond_false_right, ↓reduceIte, true_and, and_true, and_self, or_false, not_false_eq_true, forall_const, implies_true, imp_self, eq_self, Nat.reduceAdd, Nat.reduceLeDiff, Nat.reduceEqDiff, Nat.zero_add, Nat.add_zero, Nat.le_refl, Nat.succ_ne_self, Int.toNat_natCast]
    refine ⟨fun h1 => ?_, fun h1 => ?_⟩
    · have hlt : k < ls.length := by simpa using h1
      have hd : ls.drop k = ls[k] :: ls.drop (k + 1) := List.drop_eq_getElem_cons hlt
      have hg : ls.getD k (0, 0) = ls[k] := by simp [hlt]
      have hw : IntKind.i64.wrap ((k : Int) + 1) = ((k + 1 : Nat) : Int) := (IntWalk.i64_in _ (by omega)).trans (by omega)
      rw [hg]
      refine ⟨by omega, fun h2 => ?_, fun h2 => ?_⟩
      · have : rformR ⟨day, fo, ls⟩ = false := by rw [hr, he, hd, rgo, if_pos (show badR ls[k] = true from h2)]
        exact RetK.pure (by simp only [rs26, ressS, resS, and_self]) (by simp only [rs26, retV, resV, Go.Bx.get, ↓reduceIte, eq_self, VLe_refl, Go.Bx.get, ↓reduceIte, eq_self, this])
      · have hb : ¬ badR ls[k] = true := by rw [badR, h2]; simp
        have hla : 0 < k → IntKind.i64.wrap ((k : Int) - 1) = ((k - 1 : Nat) : Int) := fun h => (IntWalk.i64_in _ (by omega)).trans (by omega)
        refine ⟨fun h3 => ?_, rfl, fun h3 => ?_, fun h3 => ?_⟩
        · have h3 := of_decide_eq_true h3
          rw [hla (by omega)]
          omega
        · simp only [Bool.and_eq_true, decide_eq_true_eq] at h3
          rw [hla (by omega)] at h3
          have : rformR ⟨day, fo, ls⟩ = false := by
            rw [hr, he, hd, rgo, if_neg hb, if_pos]
            rw [if_neg (by omega)]
            exact h3.2
          exact RetK.pure (by simp only [rs26, ressS, resS, and_self]) (by simp only [rs26, retV, resV, Go.Bx.get, ↓reduceIte, eq_self, VLe_refl, Go.Bx.get, ↓reduceIte, eq_self, this])
        · refine lopK.on (k + 1) ⟨hlt, ?_⟩ (by omega) (Wk.of [] hfn rfl ?_ ?_)
          · rw [he, hd, rgo, if_neg hb, if_neg, if_neg (by omega), Nat.add_sub_cancel, hg]
            simp only [Bool.and_eq_false_iff, decide_eq_false_iff_not] at h3
            by_cases h0 : k = 0
            · rw [if_pos h0]
              intro h4
              have : badR ls[k] = true := by
                simp only [badR, Bool.or_eq_true, decide_eq_true_eq, beq_iff_eq]
                omega
              exact hb this
            · rw [if_neg h0]
              rw [hla (by omega), Int.toNat_natCast] at h3
              omega
          · simp only [EnvLe, VLe_refl, VLe_int, Go.Bx.get, ↓reduceIte, true_and, and_true, eq_self, Nat.reduceEqDiff]; exact hw
          · simp only [OwnLe, OLe_refl, exists_eq_left', Option.some.injEq, Go.Bx.own?, ↓reduceIte, and_self, eq_self]
    · have hkl : k = ls.length := by simp at h1; omega
      have : rformR ⟨day, fo, ls⟩ = true := by rw [hr, he, hkl]; simp [rgo]
      exact RetK.pure (by simp only [rs26, ressS, resS, and_self]) (by simp only [rs26, retV, resV, Go.Bx.get, ↓reduceIte, eq_self, VLe_refl, Go.Bx.get, ↓reduceIte, eq_self, this])

theorem rright_spec (e : Ent) (hl : e.ls.length ≤ 9223372036854775807) : Ctr Try.prog 12 [vE e] [] (.d (.bool (rformR e && (sumR 0 e.ls == 0)))) [] [] := by
  refine pure12 (by simp) rfl rfl ?_
  intro c hP hfn
  simp only [c12, vE, vcC_seq, vcC_reg, seqK_nrm, nrmK_app, initE, vcR_nil, vcR_n, isCall, makes, newOf, opR, evS, evV, evX, Go.Bx.get, Go.Bx.own?, cellsV, isCell, cut, dropV, takeV, St.stp, Ef.stp, lgs, setE, applyU, setO, newN, Option.getD_some, List.all_cons, List.all_nil, List.length_cons, List.length_nil, List.not_mem_nil, Bool.and_self, Bool.false_eq_true, ↓reduceIte, true_and, and_self, not_false_eq_true, eq_self, Nat.reduceAdd, Nat.zero_add, Nat.le_refl, Nat.succ_ne_self]
  refine TR.pure (hP ▸ rform_spec e hl) (by simp only [evS, evX, evSs, Go.Bx.get, ↓reduceIte, and_self, eq_self]) ?_
  simp only [vcR_n, vcR_s, isCall, makes, isStore, newOf, opR, evS, evV, evX, gOf, Go.Bx.get, Go.Bx.own?, cut, dropV, takeV, St.stp, Ef.stp, lgs, setE, applyU, newN, List.length_cons, List.length_nil, Bool.or_self, Bool.false_eq_true, ↓reduceIte, true_and, and_self, implies_true, eq_self, Nat.reduceAdd, Nat.reduceEqDiff, Nat.zero_add, Nat.le_refl, Nat.succ_ne_self]
  refine TR.gpure rfl (fun _ => hP ▸ sum_spec e hl) (fun h => by simp only [evS, evX, evSs, Go.Bx.get, ↓reduceIte, and_true, forall_const, eq_self]; simpa using h) ?_
  simp only [vcC_ret, seqK_nrm, nrmK_app, vcR_nil, vcR_n, vcR_s, isCall, makes, isStore, newOf, opR, binI, pickV, evS, evV, evX, gOf, Go.Bx.get, St.stp, Ef.stp, lgs, setE, applyU, newN, Bool.true_and, Bool.or_self, Bool.false_eq_true, Bool.cond_false_right, ↓reduceIte, true_and, and_true, and_self, forall_const, implies_true, imp_self, eq_self, Nat.reduceEqDiff, Nat.succ_ne_self]
  exact RetK.pure (by simp only [rs12, ressS, resS, and_self]) (by simp only [rs12, retV, resV, Go.Bx.get, ↓reduceIte, eq_self, VLe_refl, Go.Bx.get, ↓reduceIte, eq_self])

theorem rgo_bound : ∀ (ls : List (Int × Int)) (la : Int), 0 ≤ la → la ≤ 9 → rgo la ls = true → (ls.length : Int) ≤ 9 - la
  | [], la, h0, h9, _ => by simp; omega
  | l :: r, la, h0, h9, h => by
    rw [rgo] at h
    split at h
    · cases h
    · rename_i hb
      split at h
      · cases h
      · simp only [badR, Bool.or_eq_true, decide_eq_true_eq, beq_iff_eq] at hb
        have := rgo_bound r l.1 (by omega) (by omega) h
        simp only [List.length_cons]
        omega

theorem fgo_rgo : ∀ (ls : List (Int × Int)) (s la : Int), 0 ≤ la → fgo s la ls = if rgo la ls = true then some (sumR s ls) else none
  | [], s, la, _ => by simp [fgo, rgo, sumR]
  | l :: r, s, la, h => by
    rw [fgo, rgo, sumR]
    by_cases hb : badL la l = true
    · rw [if_pos hb]
      simp only [badL, Bool.or_eq_true, decide_eq_true_eq, beq_iff_eq] at hb
      by_cases h2 : badR l = true
      · rw [if_pos h2]; rfl
      · rw [if_neg h2]
        simp only [badR, Bool.or_eq_true, decide_eq_true_eq, beq_iff_eq] at h2
        rw [if_pos (show l.1 ≤ la by omega)]; rfl
    · rw [if_neg hb]
      simp only [badL, Bool.or_eq_true, decide_eq_true_eq, beq_iff_eq] at hb
      have h2 : ¬ badR l = true := by
        simp only [badR, Bool.or_eq_true, decide_eq_true_eq, beq_iff_eq]
        omega
      rw [if_neg h2, if_neg (show ¬ l.1 ≤ la by omega), fgo_rgo r _ _ (by omega)]

theorem right_eq (e : Ent) : ((formedR e).2 && ((formedR e).1 == 0)) = (rformR e && (sumR 0 e.ls == 0)) := by
  simp only [formedR]
  rw [fgo_rgo e.ls 0 0 (by omega)]
  by_cases h : rgo 0 e.ls = true
  · rw [if_pos h]
    have hb := rgo_bound e.ls 0 (by omega) (by omega) h
    simp only
    congr 1
    rw [rformR]
    by_cases h2 : (((((decide (e.day < 1) || decide (e.day > 292194)) || decide (e.fo < 0)) || decide (e.fo > 1000000000)) || decide ((e.ls.length : Int) < 2)) || decide ((e.ls.length : Int) > 9)) = true
    · rw [if_pos h2]
      simp only [Bool.or_eq_true, decide_eq_true_eq] at h2
      simp only [Bool.and_eq_false_iff, decide_eq_false_iff_not]
      omega
    · rw [if_neg h2, h]
      simp only [Bool.or_eq_true, decide_eq_true_eq] at h2
      simp only [Bool.and_eq_true, decide_eq_true_eq]
      omega
  · rw [if_neg h]
    simp only
    rw [rformR]
    simp [h]

theorem law_spec (e : Ent) : Ctr Try.prog 3 [vE e] [] (.d (.bool true)) [] [] := by
  refine pure3 (by simp) rfl rfl ?_
  intro c hP hfn
  simp only [c3, vE, slL, vcC_seq, vcC_reg, vcC_drw, vcC_skip, vcC_cond, seqK_nrm, nrmK_app, initE, vcR_nil, vcR_n, isCall, makes, newOf, opR, binI, evS, evV, evX, Go.Bx.get, Go.Bx.own?, cellsV, isCell, cut, nth, St.stp, Ef.stp, lgs, setE, applyU, setO, newN, Option.getD_some, List.all_cons, List.all_nil, List.length_cons, List.length_nil, List.not_mem_nil, Bool.and_self, Bool.false_eq_true, ↓reduceIte, true_and, and_self, not_false_eq_true, eq_self, Nat.reduceAdd, Nat.zero_add, Nat.le_refl, Nat.succ_ne_self]
  refine ⟨fun h => ?_, fun h => ?_⟩
  · refine TR.pure (hP ▸ alive_spec) (by simp only [evSs]) ?_
    simp only [vcC_ret, seqK_nrm, seqK_ret, nrmK_app, vcR_nil, vcR_n, isCall, makes, newOf, opR, evS, evV, evX, Go.Bx.get, St.stp, Ef.stp, lgs, setE, applyU, newN, Bool.false_eq_true, ↓reduceIte, true_and, eq_self]
    exact RetK.pure (by simp only [rs3, ressS, resS, and_self]) (by simp only [rs3, retV, resV, Go.Bx.get, ↓reduceIte, eq_self, VLe_refl, Go.Bx.get, ↓reduceIte, eq_self])
  · have hl : e.ls.length ≤ 100 := by have := of_decide_eq_false h; omega
    refine TR.pure (hP ▸ alive_spec) (by simp only [evSs]) ?_
    simp only [vcR_n, vcR_s, isCall, makes, isStore, newOf, opR, evS, evV, evX, gOf, Go.Bx.get, Go.Bx.own?, cut, dropV, takeV, St.stp, Ef.stp, Stp.lg, lgs, setE, applyU, newN, List.map_nil, List.append_nil, List.nil_append, List.cons_append, List.length_cons, List.length_nil, Bool.or_self, Bool.false_eq_true, ↓reduceIte, true_and, and_self, forall_const, eq_self, Nat.reduceAdd, Nat.reduceEqDiff, Nat.zero_add, Nat.le_refl, Nat.succ_ne_self]
    refine TR.gpure (gc := true) rfl (fun _ => hP ▸ right_spec e (by omega)) (fun _ => by simp only [evS, evX, evSs, Go.Bx.get, ↓reduceIte, and_self, forall_const, eq_self]) ?_
    simp only [vcR_s, isCall, makes, isStore, opR, evS, evV, evX, gOf, Go.Bx.get, Go.Bx.own?, cut, dropV, takeV, St.stp, lgs, setE, applyU, newN, List.nil_append, List.cons_append, List.length_cons, List.length_nil, Bool.or_self, Bool.false_eq_true, ↓reduceIte, true_and, and_self, forall_const, eq_self, Nat.reduceAdd, Nat.reduceEqDiff, Nat.zero_add, Nat.le_refl, Nat.succ_ne_self]
    refine TR.gpure (gc := true) rfl (fun _ => hP ▸ rright_spec e (by omega)) (fun _ => by simp only [evS, evX, evSs, Go.Bx.get, ↓reduceIte, and_self, forall_const, eq_self]) ?_
    rw [right_eq]
    simp only [beq_self_eq_true, vcC_ret, seqK_nrm, drwK_app, vcR_nil, vcR_n, vcR_s, isCall, makes, isStore, newOf, opR, pickV, evS, evV, evX, gOf, Go.Bx.get, St.stp, Ef.stp, Stp.lg, lgs, setE, applyU, newN, List.map_nil, List.append_nil, List.nil_append, List.cons_append, Bool.and_self, Bool.or_self, Bool.false_eq_true, cond_true, ↓reduceIte, true_and, and_self, forall_const, eq_self, Nat.reduceEqDiff, Nat.succ_ne_self, beq_self_eq_true]
    refine ⟨rfl, ?_⟩
    exact RetK.pure (by simp only [rs3, ressS, resS, and_self]) (by simp only [rs3, retV, resV, Go.Bx.get, ↓reduceIte, eq_self, VLe_refl, Go.Bx.get, ↓reduceIte, eq_self])
end Go.Proofs.Ytllakgjfgdgfiaa
