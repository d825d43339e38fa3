import Derived.Test.YtllakgjfgdgfiaaC
namespace Go.Proofs.Ytllakgjfgdgfiaa
open Go.Bx

def madeR : List Ent → List Ent → List Ent
  | b, [] => b
  | b, e :: r => madeR (if ((putR b e).2 == 0) = true then (putR b e).1 else b) r

theorem put_ok {b : List Ent} {e : Ent} (h : (putR b e).2 = 0) : (formedR e).2 = true ∧ (formedR e).1 = 0 ∧ b.length < 2000 ∧ (b ≠ [] → (b.getD (b.length - 1) default).day ≤ e.day) ∧ (putR b e).1 = b ++ [e] := by
  unfold putR at *
  split at h
  · simp at h
  · rename_i h1
    split at h
    · simp at h
    · rename_i h2
      split at h
      · simp at h
      · rename_i h3
        split at h
        · simp at h
        · rename_i h4
          rw [if_neg h1, if_neg h2, if_neg h3, if_neg h4]
          exact ⟨by simpa using h1, by simpa using h2, by omega, fun hb => by
            by_cases h5 : e.day < (b.getD (b.length - 1) default).day
            · exact absurd ⟨hb, h5⟩ h4
            · omega, rfl⟩

/-- What may stand in a book that was made by putting. -/
def okB (b : List Ent) : Prop := b.length ≤ 2000 ∧ (∀ e, e ∈ b → (formedR e).2 = true ∧ (formedR e).1 = 0) ∧ ∀ k, 0 < k → k < b.length → (b.getD (k - 1) default).day ≤ (b.getD k default).day

theorem okB_nil : okB [] := ⟨Nat.zero_le _, fun e h => by simp at h, fun k _ h => by simp at h⟩
theorem okB_put {b : List Ent} {e : Ent} (hb : okB b) (h : (putR b e).2 = 0) : okB (putR b e).1 := by
  obtain ⟨h1, h2, h3, h4, h5⟩ := put_ok h
  rw [h5]
  obtain ⟨b1, b2, b3⟩ := hb
  refine ⟨by simp; omega, fun e' he => ?_, fun k hk0 hk => ?_⟩
  · rcases List.mem_append.1 he with he | he
    · exact b2 e' he
    · simp at he; subst he; exact ⟨h1, h2⟩
  · simp only [List.length_append, List.length_cons, List.length_nil] at hk
    simp only [List.getD_eq_getElem?_getD]
    by_cases hkl : k < b.length
    · rw [List.getElem?_append_left (by omega), List.getElem?_append_left hkl]
      have := b3 k hk0 hkl
      simpa only [List.getD_eq_getElem?_getD] using this
    · have : k = b.length := by omega
      subst this
      rw [List.getElem?_append_left (by omega), List.getElem?_append_right (Nat.le_refl _)]
      have := h4 (List.length_pos_iff.1 hk0)
      simpa only [List.getD_eq_getElem?_getD, Nat.sub_self, List.getElem?_cons_zero, Option.getD_some] using this
theorem okB_made : ∀ (l b : List Ent), okB b → okB (madeR b l)
  | [], b, h => h
  | e :: r, b, h => by
    rw [madeR]
    by_cases hp : ((putR b e).2 == 0) = true
    · rw [if_pos hp]; exact okB_made r _ (okB_put h (by simpa using hp))
    · rw [if_neg hp]; exact okB_made r b h
theorem okB_lines {b : List Ent} (h : okB b) : ∀ e, e ∈ b → e.ls.length ≤ 9223372036854775807 := fun e he => by
  have := formed_bound (h.2.1 e he).1
  omega
theorem okB_len {b : List Ent} (h : okB b) : b.length ≤ 9223372036854775807 := by have := h.1; omega

theorem made_spec (l : List Ent) (hl : l.length ≤ 9223372036854775807) (hll : ∀ e, e ∈ l → e.ls.length ≤ 9223372036854775807) : Ctr Try.prog 20 [.d (slB l)] [] (vB (madeR [] l)) [] [] := by
  refine pure20 (by simp) rfl rfl ?_
  intro c hP hfn
  simp only [c20, slB, vcC_seq, vcC_reg, vcC_block, seqK_nrm, nrmK_app, initE, vcR_nil, vcR_n, isCall, makes, newOf, opR, evS, evV, evX, Go.Bx.get, St.stp, Ef.stp, lgs, setE, applyU, setO, newN, Option.getD_some, List.mem_cons, List.not_mem_nil, Bool.false_eq_true, reduceCtorEq, ↓reduceIte, true_and, or_false, not_false_eq_true, eq_self, Nat.reduceEqDiff, Nat.succ_ne_self]
  refine vcC.loop (X := Nat × List Ent) (fun x => ⟨[(2, .own 2 0), (3, .own 3 0), (8, .d (slB l)), (9, .d (.int .i64 l.length)), (10, .d (.int .i64 x.1))],
     [(2, .fix [.d (.sl true 0 0 fun _ => [])]), (3, .fix [.d (slB x.2)])], [2, 3]⟩)
    (fun x => x.1 ≤ l.length ∧ madeR [] l = madeR x.2 (l.drop x.1)) (fun x => l.length - x.1) (0, []) ⟨Nat.zero_le _, rfl⟩ (Wk.of [] hfn rfl ?_ ?_) ?_
  · simp only [slB, EnvLe, VLe_refl, Go.Bx.get, ↓reduceIte, and_self, eq_self, Nat.reduceEqDiff, Nat.succ_ne_self, Int.cast_ofNat_Int]
  · simp only [OwnLe, OLe_refl, exists_eq_left', Option.some.injEq, Go.Bx.own?, ↓reduceIte, true_and, and_true, eq_self, Nat.reduceEqDiff]
    exact OLe.fix ⟨nilB, trivial⟩
  · rintro ⟨k, b⟩ ⟨hk, he⟩
    simp only at hk he
    simp only [show slB l = .sl false 3 l.length (fun i => [.int .i64 (l.getD i default).day, .int .i64 (l.getD i default).fo, slL (l.getD i default).ls]) from rfl, vcC_seq, vcC_reg, vcC_skip, vcC_cond, vcC_block, vcC_exit, vcC_ret, seqK_nrm, seqK_exit, blkK_exit, lopK_exit, nrmK_app, vcR_nil, vcR_n, isCall, makes, newOf, opR, binI, evS, evV, evX, Go.Bx.get, Go.Bx.own?, cellsV, isCell, cut, cutD, dropV, takeV, dropD, takeDV, putV, St.stp, Ef.stp, lgs, setE, applyU, setO, newN, Option.getD_some, List.all_cons, List.all_nil, List.length_cons, List.length_nil, List.mem_cons, List.not_mem_nil, Bool.and_self, Bool.false_eq_true, ↓reduceIte, true_and, and_true, and_self, or_false, not_false_eq_true, eq_self, Nat.reduceAdd, Nat.reduceEqDiff, Nat.zero_add, Nat.le_refl, Nat.succ_ne_self, Int.toNat_natCast]
    refine ⟨fun h1 => ?_, fun h1 => ?_⟩
    · have hlt : k < l.length := by simpa using h1
      have hd : l.drop k = l[k] :: l.drop (k + 1) := List.drop_eq_getElem_cons hlt
      have hgd : l.getD k default = l[k] := by simp [hlt]
      have hll' := hll l[k] (List.getElem_mem hlt)
      have hw : IntKind.i64.wrap ((k : Int) + 1) = ((k + 1 : Nat) : Int) := (IntWalk.i64_in _ (by omega)).trans (by omega)
      rw [hgd]
      refine ⟨by omega, ?_⟩
      refine TR.pure (hP ▸ put_spec b l[k] hll') (by simp only [evS, evX, evSs, Go.Bx.get, ↓reduceIte, and_self, eq_self, Nat.succ_ne_self]) ?_
      simp only [vB, vcC_seq, vcC_reg, vcC_skip, vcC_cond, seqK_nrm, blkK_nrm, nrmK_app, vcR_nil, vcR_n, isCall, makes, newOf, opR, binI, evS, evV, evX, Go.Bx.get, Go.Bx.own?, cellsV, isCell, cut, nth, dropV, takeV, putV, St.stp, Ef.stp, lgs, setE, applyU, setO, newN, Option.getD_some, List.all_cons, List.all_nil, List.length_cons, List.length_nil, List.mem_cons, List.not_mem_nil, Bool.and_self, Bool.false_eq_true, ↓reduceIte, true_and, and_self, or_false, not_false_eq_true, eq_self, Nat.reduceAdd, Nat.reduceEqDiff, Nat.zero_add, Nat.le_refl, Nat.succ_ne_self, Nat.reduceLT, or_true]
      refine ⟨fun h2 => ?_, fun h2 => ?_⟩
      · refine lopK.on (k + 1, (putR b l[k]).1) ⟨hlt, ?_⟩ (by simp only; omega) (Wk.of [] hfn rfl ?_ ?_)
        · rw [he, hd, madeR, if_pos h2]
        · simp only [EnvLe, VLe_refl, VLe_int, Go.Bx.get, ↓reduceIte, true_and, and_true, eq_self, Nat.reduceEqDiff, Nat.succ_ne_self]; exact hw
        · simp only [OwnLe, OLe_refl, exists_eq_left', Option.some.injEq, Go.Bx.own?, ↓reduceIte, and_self, eq_self, Nat.reduceEqDiff]
      · refine lopK.on (k + 1, b) ⟨hlt, ?_⟩ (by simp only; omega) (Wk.of [] hfn rfl ?_ ?_)
        · rw [he, hd, madeR, if_neg (by rw [h2]; simp)]
        · simp only [EnvLe, VLe_refl, VLe_int, Go.Bx.get, ↓reduceIte, true_and, and_true, eq_self, Nat.reduceEqDiff, Nat.succ_ne_self]; exact hw
        · simp only [OwnLe, OLe_refl, exists_eq_left', Option.some.injEq, Go.Bx.own?, ↓reduceIte, and_self, eq_self, Nat.reduceEqDiff]
    · have hkl : k = l.length := by simp at h1; omega
      have : madeR [] l = b := by rw [he, hkl]; simp [madeR]
      exact RetK.pure (by simp only [rs20, ressS, resS, Go.Bx.get, Go.Bx.own?, List.length_cons, List.length_nil, ↓reduceIte, and_self, eq_self, Nat.reduceEqDiff, Nat.zero_add, Nat.le_refl]) (by simp only [rs20, this, vB, retV, resV, Go.Bx.get, Go.Bx.own?, cut, dropV, takeV, ↓reduceIte, eq_self, Nat.reduceEqDiff, VLe_refl, Go.Bx.get, Go.Bx.own?, cut, dropV, takeV, ↓reduceIte, eq_self, Nat.reduceEqDiff])

theorem many_spec (p : Int × Int) : Ctr Try.prog 23 [vS p] [] (.d (.int .i64 (IntKind.i64.wrap ((keptR p).2 - (keptR p).1)))) [] [] := by
  refine pure23 (by simp) rfl rfl ?_
  intro c hP hfn
  simp only [c23, vS, vcC_seq, vcC_reg, seqK_nrm, nrmK_app, initE, vcR_nil, vcR_n, isCall, makes, newOf, opR, evS, evV, evX, Go.Bx.get, Go.Bx.own?, cellsV, isCell, cut, dropV, takeV, St.stp, Ef.stp, lgs, setE, applyU, setO, newN, Option.getD_some, List.all_cons, List.all_nil, List.length_cons, List.length_nil, List.not_mem_nil, Bool.and_self, Bool.false_eq_true, ↓reduceIte, true_and, and_self, not_false_eq_true, eq_self, Nat.reduceAdd, Nat.zero_add, Nat.le_refl, Nat.succ_ne_self]
  refine TR.pure (hP ▸ kept_spec p) (by simp only [evS, evX, evSs, Go.Bx.get, ↓reduceIte, and_self, eq_self]) ?_
  simp only [vS, vcC_seq, vcC_reg, vcC_ret, seqK_nrm, nrmK_app, vcR_nil, vcR_n, isCall, makes, newOf, opR, binI, evS, evV, evX, Go.Bx.get, Go.Bx.own?, cellsV, isCell, cut, nth, putV, St.stp, Ef.stp, lgs, setE, applyU, setO, newN, List.all_cons, List.all_nil, List.length_cons, List.length_nil, List.mem_cons, List.not_mem_nil, Bool.and_self, Bool.false_eq_true, ↓reduceIte, true_and, and_self, or_false, eq_self, Nat.reduceAdd, Nat.reduceLeDiff, Nat.reduceEqDiff, Nat.zero_add, Nat.add_zero, Nat.le_refl, Nat.succ_ne_self]
  exact RetK.pure (by simp only [rs23, ressS, resS, and_self]) (by simp only [rs23, retV, resV, Go.Bx.get, ↓reduceIte, eq_self, VLe_refl, Go.Bx.get, ↓reduceIte, eq_self])

/-- Two marks of days whose difference is a third. -/
theorem addT_sub (acc : Int) (f g h : Int → Bool) (hf : ∀ d, (if f d = true then (1 : Int) else 0) = (if g d = true then 1 else 0) - (if h d = true then 1 else 0)) : ∀ b : List Ent, addT acc f b = addT acc g b - addT acc h b
  | [] => rfl
  | e :: r => by
    have := hf e.day
    simp only [addT, addT_sub acc f g h hf r]
    by_cases h1 : f e.day = true <;> by_cases h2 : g e.day = true <;> by_cases h3 : h e.day = true <;> simp only [h1, h2, h3, if_true, if_false, Bool.false_eq_true] at this ⊢ <;> omega

theorem turn_diff (p : Int × Int) (hp : (keptR p).2 ≠ (keptR p).1) (acc : Int) (b : List Ent) :
    addR acc (fun d => inR p d) 0 b = W (addR acc (fun d => decide (d ≤ W (p.2 - 1))) 0 b - addR acc (fun d => decide (d ≤ W (p.1 - 1))) 0 b) := by
  rw [addR_T, addR_T, addR_T, W_sub]
  congr 1
  have hk : okS p = true ∧ p.1 ≠ p.2 := by
    unfold keptR at hp
    split at hp
    · exact absurd rfl hp
    · rename_i h
      simp at h
      exact ⟨h.1, h.2⟩
  obtain ⟨h1, h2⟩ := hk
  have hkp : keptR p = p := by rw [keptR, if_neg]; simp [h1, h2]
  simp only [okS, Bool.and_eq_true, decide_eq_true_eq] at h1
  have e1 : W (p.2 - 1) = p.2 - 1 := by rw [W_eq]; omega
  have e2 : W (p.1 - 1) = p.1 - 1 := by rw [W_eq]; omega
  rw [e1, e2]
  refine addT_sub acc _ _ _ (fun d => ?_) b
  simp only [inR, hkp, Bool.and_eq_true, decide_eq_true_eq]
  by_cases h3 : d ≥ p.1 <;> by_cases h4 : d < p.2
  · rw [if_pos ⟨h3, h4⟩, if_pos (by omega), if_neg (by omega)]; rfl
  · rw [if_neg (fun h => h4 h.2), if_neg (by omega), if_neg (by omega)]; rfl
  · rw [if_neg (fun h => h3 h.1), if_pos (by omega), if_pos (by omega)]; rfl
  · omega

theorem turns_spec (l : List Ent) (acc : Int) (p : Int × Int) (hl : l.length ≤ 9223372036854775807) (hll : ∀ e, e ∈ l → e.ls.length ≤ 9223372036854775807) :
    Ctr Try.prog 9 [.d (slB l), .d (.int .i64 acc), vS p] [] (.d (.bool true)) [] [] := by
  refine pure9 (by simp) rfl rfl ?_
  intro c hP hfn
  simp only [c9, vS, vcC_seq, vcC_reg, seqK_nrm, nrmK_app, initE, vcR_nil, vcR_n, isCall, makes, newOf, opR, evS, evV, evX, Go.Bx.get, cellsV, isCell, St.stp, Ef.stp, lgs, setE, applyU, setO, newN, Option.getD_some, List.all_cons, List.all_nil, List.not_mem_nil, Bool.and_self, Bool.false_eq_true, reduceCtorEq, ↓reduceIte, true_and, and_self, not_false_eq_true, eq_self, Nat.reduceAdd, Nat.reduceEqDiff, Nat.zero_add]
  refine TR.pure (hP ▸ few_spec l hl) (by simp only [evS, evX, evSs, Go.Bx.get, ↓reduceIte, and_self, eq_self]) ?_
  simp only [vcR_n, vcR_s, isCall, makes, isStore, newOf, opR, evS, evV, evX, gOf, Go.Bx.get, Go.Bx.own?, cut, dropV, takeV, St.stp, Ef.stp, lgs, setE, applyU, newN, List.length_cons, List.length_nil, Bool.or_self, Bool.false_eq_true, ↓reduceIte, true_and, and_self, implies_true, eq_self, Nat.reduceAdd, Nat.reduceEqDiff, Nat.zero_add, Nat.le_refl, Nat.succ_ne_self]
  refine TR.gpure rfl (fun _ => hP ▸ many_spec p) (fun h => by simp only [evS, evX, evSs, Go.Bx.get, ↓reduceIte, and_true, forall_const, eq_self]; simpa using h) ?_
  simp only [vcC_seq, vcC_reg, vcC_skip, vcC_cond, seqK_nrm, nrmK_app, vcR_nil, vcR_n, vcR_s, isCall, makes, isStore, newOf, opR, binI, pickV, evS, evV, evX, gOf, Go.Bx.get, St.stp, Ef.stp, lgs, setE, applyU, newN, Bool.true_and, Bool.or_self, Bool.false_eq_true, Bool.cond_true_left, reduceCtorEq, ↓reduceIte, true_and, and_true, and_self, forall_const, implies_true, imp_self, eq_self, Nat.reduceEqDiff, Nat.succ_ne_self]
  refine ⟨fun h => ?_, fun h => ?_⟩
  · refine TR.pure (hP ▸ alive_spec) (by simp only [evSs]) ?_
    simp only [vcC_ret, seqK_nrm, seqK_ret, nrmK_app, vcR_nil, vcR_n, isCall, makes, newOf, opR, evS, evV, evX, Go.Bx.get, St.stp, Ef.stp, lgs, setE, applyU, newN, Bool.false_eq_true, ↓reduceIte, true_and, eq_self]
    exact RetK.pure (by simp only [rs9, ressS, resS, and_self]) (by simp only [rs9, retV, resV, Go.Bx.get, ↓reduceIte, eq_self, VLe_refl, Go.Bx.get, ↓reduceIte, eq_self])
  · have hok := okB_made l [] okB_nil
    refine TR.pure (hP ▸ made_spec l hl hll) (by simp only [evS, evX, evSs, Go.Bx.get, ↓reduceIte, and_self, eq_self]) ?_
    simp only [vB, vcC_seq, vcC_drw, seqK_nrm, nrmK_app, vcR_nil, vcR_n, isCall, makes, newOf, opR, evS, evV, evX, Go.Bx.get, Go.Bx.own?, cellsV, isCell, putV, St.stp, Ef.stp, lgs, setE, applyU, setO, newN, Option.getD_some, List.all_cons, List.all_nil, List.length_cons, List.length_nil, List.mem_cons, List.not_mem_nil, Bool.and_self, Bool.false_eq_true, ↓reduceIte, true_and, and_self, or_false, not_false_eq_true, eq_self, Nat.reduceEqDiff, Nat.zero_add, Nat.le_refl]
    refine TR.pure (hP ▸ alive_spec) (by simp only [evSs]) ?_
    simp only [vcR_n, vcR_s, isCall, makes, isStore, newOf, opR, evS, evV, evX, gOf, Go.Bx.get, Go.Bx.own?, cut, dropV, takeV, St.stp, Ef.stp, Stp.lg, lgs, setE, applyU, newN, List.map_nil, List.append_nil, List.nil_append, List.cons_append, List.length_cons, List.length_nil, Bool.or_self, Bool.false_eq_true, ↓reduceIte, true_and, and_self, forall_const, eq_self, Nat.reduceAdd, Nat.reduceEqDiff, Nat.zero_add, Nat.le_refl, Nat.succ_ne_self, Nat.zero_ne_one]
    refine TR.gpure (gc := true) rfl (fun _ => hP ▸ turn_spec _ acc p (okB_len hok) (okB_lines hok)) (fun _ => by simp only [evS, evX, evSs, Go.Bx.get, ↓reduceIte, and_self, forall_const, eq_self, Nat.reduceEqDiff, Nat.succ_ne_self]) ?_
    simp only [vcR_s, isCall, makes, isStore, opR, binI, evS, evV, evX, gOf, Go.Bx.get, Go.Bx.own?, cut, nth, dropV, takeV, St.stp, lgs, setE, applyU, newN, List.nil_append, List.cons_append, List.length_cons, List.length_nil, Bool.or_self, Bool.false_eq_true, ↓reduceIte, true_and, and_self, forall_const, eq_self, Nat.reduceAdd, Nat.reduceEqDiff, Nat.zero_add, Nat.le_refl, Nat.succ_ne_self, Nat.zero_ne_one]
    refine TR.gpure (gc := true) rfl (fun _ => hP ▸ balance_spec _ acc _ (okB_len hok) (okB_lines hok)) (fun _ => by simp only [evS, evX, evSs, Go.Bx.get, ↓reduceIte, and_self, forall_const, eq_self, Nat.reduceEqDiff, Nat.succ_ne_self]) ?_
    simp only [vcR_s, isCall, makes, isStore, opR, binI, evS, evV, evX, gOf, Go.Bx.get, Go.Bx.own?, cut, nth, dropV, takeV, St.stp, lgs, setE, applyU, newN, List.nil_append, List.cons_append, List.length_cons, List.length_nil, Bool.or_self, Bool.false_eq_true, ↓reduceIte, true_and, and_self, forall_const, eq_self, Nat.reduceAdd, Nat.reduceLeDiff, Nat.reduceEqDiff, Nat.zero_add, Nat.add_zero, Nat.le_refl, Nat.succ_ne_self, Nat.zero_ne_one]
    refine TR.gpure (gc := true) rfl (fun _ => hP ▸ balance_spec _ acc _ (okB_len hok) (okB_lines hok)) (fun _ => by simp only [evS, evX, evSs, Go.Bx.get, ↓reduceIte, and_self, forall_const, eq_self, Nat.reduceEqDiff, Nat.succ_ne_self]) ?_
    have hp : (keptR p).2 ≠ (keptR p).1 := fun h2 => by
      simp only [Bool.or_eq_false_iff, beq_eq_false_iff_ne] at h
      apply h.2
      rw [h2, Int.sub_self]
      exact W_zero
    have : addR acc (fun d => inR p d) 0 (madeR [] l) = IntKind.i64.wrap (addR acc (fun d => decide (d ≤ IntKind.i64.wrap (p.2 - 1))) 0 (madeR [] l) - addR acc (fun d => decide (d ≤ IntKind.i64.wrap (p.1 - 1))) 0 (madeR [] l)) := turn_diff p hp acc (madeR [] l)
    rw [this]
    simp only [vcC_ret, seqK_nrm, drwK_app, vcR_nil, vcR_n, vcR_s, isCall, makes, isStore, newOf, opR, binI, pickV, evS, evV, evX, gOf, Go.Bx.get, St.stp, Ef.stp, Stp.lg, lgs, setE, applyU, newN, List.map_nil, List.append_nil, List.nil_append, List.cons_append, Bool.and_self, Bool.or_self, Bool.false_eq_true, cond_true, ↓reduceIte, true_and, and_self, forall_const, eq_self, Nat.reduceEqDiff, Nat.succ_ne_self, beq_self_eq_true]
    refine ⟨rfl, ?_⟩
    exact RetK.pure (by simp only [rs9, ressS, resS, and_self]) (by simp only [rs9, retV, resV, Go.Bx.get, ↓reduceIte, eq_self, VLe_refl, Go.Bx.get, ↓reduceIte, eq_self])

end Go.Proofs.Ytllakgjfgdgfiaa
