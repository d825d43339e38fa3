import Derived.Test.YtllakgjfgdgfiaaF
import Derived.Test.YtllakgjfgdgfiaaE
namespace Go.Proofs.Ytllakgjfgdgfiaa
open Go.Bx

/-- An entry's lines, each added to its own account's number. -/
def putL (g : Nat → Int) : List (Int × Int) → Nat → Int
  | [] => g
  | l :: r => putL (updF g l.1.toNat (IntKind.i64.wrap (g l.1.toNat + l.2))) r
theorem putL_eq : ∀ (ls : List (Int × Int)) (g : Nat → Int) (i : Nat), (∀ l, l ∈ ls → inAcc l) → (∀ i, W (g i) = g i) → putL g ls i = W (g i + accT i ls)
  | [], g, i, _, hg => by simp only [putL, accT, Int.add_zero, hg]
  | l :: r, g, i, h, hg => by
    have hg' : ∀ j, W (updF g l.1.toNat (IntKind.i64.wrap (g l.1.toNat + l.2)) j) = updF g l.1.toNat (IntKind.i64.wrap (g l.1.toNat + l.2)) j := fun j => by
      simp only [updF]
      by_cases hj : j = l.1.toNat
      · rw [if_pos hj]; exact W_W _
      · rw [if_neg hj]; exact hg j
    rw [putL, putL_eq r _ i (fun l' hl' => h l' (by simp [hl'])) hg', accT]
    obtain ⟨h1, h2⟩ := h l (by simp)
    simp only [updF]
    by_cases hi : i = l.1.toNat
    · rw [if_pos hi, if_pos (by simp; omega), hi]
      rw [W_def, W_add, Int.add_assoc]
    · rw [if_neg hi, if_neg (by simp; omega), Int.zero_add]

theorem accT_zero : ∀ (ls : List (Int × Int)), (∀ l, l ∈ ls → inAcc l) → accT 0 ls = 0
  | [], _ => rfl
  | l :: r, h => by
    obtain ⟨h1, h2⟩ := h l (by simp)
    rw [accT, if_neg (by simp; omega), accT_zero r (fun l' hl' => h l' (by simp [hl']))]
    rfl

theorem trial_put (b : List Ent) (e : Ent) (he : (formedR e).2 = true) (hl : ∀ l, l ∈ e.ls → inAcc l) (i : Nat) : trialR (b ++ [e]) 292194 i = putL (trialR b 292194) e.ls i := by
  have hday : decide (e.day ≤ 292194) = true := by
    cases hf : fgo 0 0 e.ls with
    | none => simp [formedR, hf] at he
    | some s => simp [formedR, hf] at he; simp; omega
  have hw : ∀ i, W (trialR b 292194 i) = trialR b 292194 i := fun i => by
    simp only [trialR]
    by_cases h : i = 0
    · rw [if_pos h]; exact W_zero
    · rw [if_neg h, addR_T]; exact W_W _
  rw [putL_eq e.ls _ i hl hw]
  simp only [trialR]
  by_cases h : i = 0
  · rw [if_pos h, if_pos h, h]
    have := accT_zero e.ls hl
    rw [show ((0 : Nat) : Int) = 0 from rfl, this]
    exact W_zero.symm
  · rw [if_neg h, if_neg h, addR_app, if_pos hday, accL_eq]
    rw [addR_T]; exact W_W _

theorem whole_spec (l : List Ent) (e : Ent) (hl : l.length ≤ 9223372036854775807) (hll : ∀ e, e ∈ l → e.ls.length ≤ 9223372036854775807) (he : e.ls.length ≤ 9223372036854775807) :
    Ctr Try.prog 8 [.d (slB l), vE e] [] (.d (.bool true)) [] [] := by
  refine pure8 (by simp) rfl rfl ?_
  intro c hP hfn
  simp only [c8, vE, vcC_seq, vcC_reg, seqK_nrm, nrmK_app, initE, vcR_nil, vcR_n, isCall, makes, newOf, opR, evS, evV, evX, Go.Bx.get, cellsV, isCell, St.stp, Ef.stp, lgs, setE, applyU, setO, newN, Option.getD_some, List.all_cons, List.all_nil, List.not_mem_nil, Bool.and_self, Bool.false_eq_true, reduceCtorEq, ↓reduceIte, true_and, and_self, not_false_eq_true, eq_self, Nat.zero_add, Nat.zero_ne_one]
  refine TR.pure (hP ▸ few_spec l hl) (by simp only [evS, evX, evSs, Go.Bx.get, ↓reduceIte, and_self, eq_self]) ?_
  simp only [show slL e.ls = .sl false 2 e.ls.length (fun i => [.int .i64 (e.ls.getD i (0,0)).1, .int .i64 (e.ls.getD i (0,0)).2]) from rfl, vcC_seq, vcC_reg, vcC_skip, vcC_cond, seqK_nrm, nrmK_app, vcR_nil, vcR_n, vcR_s, isCall, makes, isStore, newOf, opR, binI, pickV, evS, evV, evX, gOf, Go.Bx.get, Go.Bx.own?, cut, nth, St.stp, Ef.stp, lgs, setE, applyU, newN, List.length_cons, List.length_nil, Bool.true_and, Bool.or_self, Bool.false_eq_true, Bool.cond_true_left, reduceCtorEq, ↓reduceIte, true_and, and_true, and_self, forall_const, implies_true, imp_self, eq_self, Nat.reduceAdd, Nat.reduceEqDiff, Nat.zero_add, Nat.le_refl, Nat.succ_ne_self]
  refine ⟨fun h => ?_, fun h => ?_⟩
  · refine TR.pure (hP ▸ alive_spec) (by simp only [evSs]) ?_
    simp only [vcC_ret, seqK_nrm, seqK_ret, nrmK_app, vcR_nil, vcR_n, isCall, makes, newOf, opR, evS, evV, evX, Go.Bx.get, St.stp, Ef.stp, lgs, setE, applyU, newN, Bool.false_eq_true, ↓reduceIte, true_and, eq_self]
    exact RetK.pure (by simp only [rs8, ressS, resS, and_self]) (by simp only [rs8, retV, resV, Go.Bx.get, ↓reduceIte, eq_self, VLe_refl, Go.Bx.get, ↓reduceIte, eq_self])
  · have hok := okB_made l [] okB_nil
    refine TR.pure (hP ▸ made_spec l hl hll) (by simp only [evS, evX, evSs, Go.Bx.get, ↓reduceIte, and_self, eq_self]) ?_
    generalize madeR [] l = b at *
    simp only [vB, vcC_seq, vcC_reg, seqK_nrm, nrmK_app, vcR_nil, vcR_n, isCall, makes, newOf, opR, evS, evV, evX, Go.Bx.get, Go.Bx.own?, cellsV, isCell, cut, dropV, takeV, putV, St.stp, Ef.stp, lgs, setE, applyU, setO, newN, Option.getD_some, List.all_cons, List.all_nil, List.length_cons, List.length_nil, List.mem_cons, List.not_mem_nil, Bool.and_self, Bool.false_eq_true, ↓reduceIte, true_and, and_self, or_false, not_false_eq_true, eq_self, Nat.reduceAdd, Nat.reduceEqDiff, Nat.zero_add, Nat.le_refl, Nat.succ_ne_self]
    refine TR.pure (hP ▸ put_spec b e he) (by simp only [evS, evX, evSs, Go.Bx.get, ↓reduceIte, and_self, eq_self, Nat.succ_ne_self]) ?_
    simp only [vB, vcC_seq, vcC_reg, vcC_drw, vcC_skip, vcC_cond, seqK_nrm, nrmK_app, vcR_nil, vcR_n, isCall, makes, newOf, opR, binI, evS, evV, evX, Go.Bx.get, Go.Bx.own?, cellsV, isCell, cut, nth, dropV, takeV, putV, St.stp, Ef.stp, Stp.lg, lgs, setE, applyU, setO, newN, Option.getD_some, List.all_cons, List.all_nil, List.map_nil, List.append_nil, List.nil_append, List.length_cons, List.length_nil, List.mem_cons, List.not_mem_nil, Bool.and_self, Bool.false_eq_true, ↓reduceIte, true_and, and_self, or_false, not_false_eq_true, eq_self, Nat.reduceAdd, Nat.reduceEqDiff, Nat.zero_add, Nat.le_refl, Nat.succ_ne_self, Nat.reduceLT]
    refine ⟨fun h2 => ?_, fun h2 => ?_⟩
    · refine TR.pure (hP ▸ alive_spec) (by simp only [evSs]) ?_
      simp only [vcC_ret, seqK_nrm, seqK_ret, nrmK_app, vcR_nil, vcR_n, isCall, makes, newOf, opR, evS, evV, evX, Go.Bx.get, St.stp, Ef.stp, lgs, setE, applyU, newN, Bool.false_eq_true, ↓reduceIte, true_and, eq_self]
      exact RetK.pure (by simp only [rs8, ressS, resS, and_self]) (by simp only [rs8, retV, resV, Go.Bx.get, ↓reduceIte, eq_self, VLe_refl, Go.Bx.get, ↓reduceIte, eq_self])
    · have h3 : (putR b e).2 = 0 := by simpa using h2
      have hx := okB_put hok h3
      obtain ⟨hf1, hf2, _, _, hxe⟩ := put_ok h3
      obtain ⟨_, hin⟩ := sum_zero hf1 hf2
      rw [hxe] at hx ⊢
      refine TR.pure (hP ▸ trial_spec _ 292194 (okB_len hok) (okB_lines hok)) (by simp only [evS, evX, evSs, Go.Bx.get, ↓reduceIte, and_self, eq_self]) ?_
      simp only [vcR_n, isCall, makes, newOf, opR, evS, evV, evX, Go.Bx.get, Go.Bx.own?, cut, dropV, takeV, St.stp, Ef.stp, Stp.lg, lgs, setE, applyU, newN, List.map_nil, List.append_nil, List.nil_append, List.cons_append, List.length_cons, List.length_nil, Bool.false_eq_true, ↓reduceIte, true_and, and_self, eq_self, Nat.reduceEqDiff, Nat.zero_add, Nat.le_refl, Nat.succ_ne_self]
      refine TR.pure (hP ▸ trial_spec _ 292194 (okB_len hx) (okB_lines hx)) (by simp only [evS, evX, evSs, Go.Bx.get, ↓reduceIte, and_self, eq_self]) ?_
      simp only [arr10, vcC_seq, vcC_reg, vcC_block, seqK_nrm, nrmK_app, drwK_app, vcR_nil, vcR_n, isCall, makes, newOf, opR, evS, evV, evX, Go.Bx.get, Go.Bx.own?, cellsV, isCell, cut, nth, putV, St.stp, Ef.stp, Stp.lg, lgs, setE, applyU, setO, newN, Option.getD_some, List.all_cons, List.all_nil, List.map_cons, List.map_nil, List.append_nil, List.nil_append, List.cons_append, List.length_cons, List.length_nil, List.mem_cons, List.not_mem_nil, Bool.and_self, Bool.false_eq_true, ↓reduceIte, true_and, and_self, or_false, not_false_eq_true, eq_self, Nat.reduceAdd, Nat.reduceEqDiff, Nat.zero_add, Nat.le_refl, Nat.succ_ne_self, or_true]
      refine ⟨rfl, ?_⟩
      refine vcC.loop (X := Nat × (Nat → Int)) (fun x => ⟨[(8, .own 8 0), (9, .own 9 0), (38, .d (slL e.ls)), (39, .d (.int .i64 e.ls.length)), (40, .d (.int .i64 x.1))],
          [(8, .fix (arr10 x.2)), (9, .fix (arr10 (trialR (b ++ [e]) 292194)))], [8, 9]⟩)
        (fun x => x.1 ≤ e.ls.length ∧ putL (trialR b 292194) e.ls = putL x.2 (e.ls.drop x.1)) (fun x => e.ls.length - x.1) (0, trialR b 292194) ⟨Nat.zero_le _, rfl⟩ (Wk.of [] hfn rfl ?_ ?_) ?_
      · simp only [slL, EnvLe, VLe_refl, Go.Bx.get, ↓reduceIte, and_self, eq_self, Nat.reduceEqDiff, Nat.succ_ne_self, Int.cast_ofNat_Int]
      · simp only [arr10, OwnLe, OLe_refl, exists_eq_left', Option.some.injEq, Go.Bx.own?, ↓reduceIte, and_self, eq_self, Nat.reduceEqDiff]
      · rintro ⟨k, g⟩ ⟨hk, hg⟩
        simp only at hk hg
        simp only [slL, arr10_len, vcC_seq, vcC_reg, vcC_drw, vcC_skip, vcC_cond, vcC_block, vcC_exit, seqK_nrm, seqK_exit, blkK_nrm, blkK_exit, lopK_exit, nrmK_app, drwK_app, vcR_nil, vcR_n, isCall, makes, newOf, opR, binI, evS, evV, evX, Go.Bx.get, Go.Bx.own?, cellsV, isCell, cut, cutD, nth, dropD, takeDV, putV, St.stp, Ef.stp, Stp.lg, lgs, setE, applyU, setO, newN, Ef.bad, Option.getD_some, List.all_cons, List.all_nil, List.map_nil, List.append_nil, List.nil_append, List.cons_append, List.length_cons, List.length_nil, List.mem_cons, List.not_mem_nil, Bool.and_self, Bool.false_eq_true, ↓reduceIte, true_and, and_true, and_self, or_false, not_false_eq_true, forall_const, eq_self, Nat.reduceAdd, Nat.reduceLeDiff, Nat.reduceEqDiff, Nat.zero_add, Nat.add_zero, Nat.le_refl, Nat.succ_ne_self, Int.toNat_natCast, Int.cast_ofNat_Int, Nat.mul_one]
        refine ⟨fun h4 => ?_, fun h4 => ?_⟩
        · have hlt : k < e.ls.length := by simpa using h4
          have hd : e.ls.drop k = e.ls[k] :: e.ls.drop (k + 1) := List.drop_eq_getElem_cons hlt
          have hgd : e.ls.getD k (0, 0) = e.ls[k] := by simp [hlt]
          have hw : IntKind.i64.wrap ((k : Int) + 1) = ((k + 1 : Nat) : Int) := (IntWalk.i64_in _ (by omega)).trans (by omega)
          obtain ⟨i1, i2⟩ := hin e.ls[k] (List.getElem_mem hlt)
          rw [hgd]
          simp only [arr10_nth g e.ls[k].1.toNat (by omega), Go.Bx.own?, applyU, setO, newN, List.map_cons, List.map_nil, List.length_cons, List.length_nil, List.mem_cons, List.not_mem_nil, ↓reduceIte, true_and, and_self, or_false, eq_self, Nat.reduceEqDiff, Nat.zero_add, or_true]
          refine ⟨by omega, by omega, by omega, by omega, by rw [arr10_len]; omega, rfl, ?_⟩
          rw [arr10_put _ _ _ (by omega)]
          refine lopK.on (k + 1, updF g e.ls[k].1.toNat (IntKind.i64.wrap (g e.ls[k].1.toNat + e.ls[k].2))) ⟨hlt, ?_⟩ (by simp only; omega) (Wk.of [] hfn rfl ?_ ?_)
          · rw [hg, hd, putL]
          · simp only [EnvLe, VLe_refl, VLe_int, Go.Bx.get, ↓reduceIte, true_and, and_true, eq_self, Nat.reduceEqDiff, Nat.succ_ne_self]; exact hw
          · simp only [OwnLe, OLe_refl, exists_eq_left', Option.some.injEq, Go.Bx.own?, ↓reduceIte, and_self, eq_self, Nat.reduceEqDiff]
        · have hkl : k = e.ls.length := by simp at h4; omega
          have heq : arr10 g = arr10 (trialR (b ++ [e]) 292194) := arr10_congr fun i _ => by
            rw [trial_put b e hf1 hin i, hg, hkl]
            simp [putL]
          rw [heq]
          refine TR.pure (hP ▸ alive_spec) (by simp only [evSs]) ?_
          simp only [arr10, vcC_ret, seqK_nrm, nrmK_app, vcR_nil, vcR_n, vcR_s, isCall, makes, isStore, newOf, opR, pickV, evS, evV, evX, gOf, Go.Bx.get, Go.Bx.own?, cut, nth, dropV, takeV, St.stp, Ef.stp, lgs, setE, applyU, newN, List.length_cons, List.length_nil, Bool.and_self, Bool.or_self, Bool.false_eq_true, cond_true, ↓reduceIte, true_and, and_self, forall_const, eq_self, Nat.reduceAdd, Nat.reduceEqDiff, Nat.zero_add, Nat.le_refl, Nat.succ_ne_self, eqS, eqB, beq_self_eq_true]
          exact RetK.pure (by simp only [rs8, ressS, resS, and_self]) (by simp only [rs8, retV, resV, Go.Bx.get, ↓reduceIte, eq_self, VLe_refl, Go.Bx.get, ↓reduceIte, eq_self])

end Go.Proofs.Ytllakgjfgdgfiaa
