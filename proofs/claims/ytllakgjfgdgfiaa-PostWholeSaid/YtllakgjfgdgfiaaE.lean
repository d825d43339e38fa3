import Derived.Test.YtllakgjfgdgfiaaD
namespace Go.Proofs.Ytllakgjfgdgfiaa
open Go.Bx

/-- Every account's sum together is the sum of all. -/
def inAcc (l : Int × Int) : Prop := 1 ≤ l.1 ∧ l.1 ≤ 9
def sumT : List (Int × Int) → Int
  | [] => 0
  | l :: r => l.2 + sumT r
theorem sumR_eq : ∀ (ls : List (Int × Int)) (s : Int), W s = s → sumR s ls = W (s + sumT ls)
  | [], s, h => by simp only [sumR, sumT, Int.add_zero, h]
  | l :: r, s, h => by
    simp only [sumR, sumT, W_def]
    rw [sumR_eq r _ (W_W _), W_add, Int.add_assoc]

theorem fgo_sum : ∀ (ls : List (Int × Int)) (s la r : Int), 0 ≤ la → W s = s → fgo s la ls = some r → r = W (s + sumT ls) ∧ (∀ l, l ∈ ls → inAcc l)
  | [], s, la, r, _, hs, h => by simp [fgo] at h; subst h; exact ⟨by simp only [sumT, Int.add_zero, hs], fun l hl => by simp at hl⟩
  | l :: ls, s, la, r, h0, hs, h => by
    rw [fgo] at h
    split at h
    · cases h
    · rename_i hb
      simp only [badL, Bool.or_eq_true, decide_eq_true_eq, beq_iff_eq] at hb
      obtain ⟨h1, h2⟩ := fgo_sum ls _ l.1 r (by omega) (W_W _) h
      refine ⟨?_, fun l' hl' => ?_⟩
      · rw [h1, W_add, sumT, Int.add_assoc]
      · rcases List.mem_cons.1 hl' with rfl | hl'
        · exact ⟨by omega, by omega⟩
        · exact h2 l' hl'

def accAll (f : Int → Int) : Int := f 1 + f 2 + f 3 + f 4 + f 5 + f 6 + f 7 + f 8 + f 9
theorem accAll_T : ∀ (ls : List (Int × Int)), (∀ l, l ∈ ls → inAcc l) → accAll (fun a => accT a ls) = sumT ls
  | [], _ => rfl
  | l :: r, h => by
    have ih := accAll_T r (fun l' hl' => h l' (by simp [hl']))
    obtain ⟨h1, h2⟩ := h l (by simp)
    obtain ⟨a, v⟩ := l
    have ha : a = 1 ∨ a = 2 ∨ a = 3 ∨ a = 4 ∨ a = 5 ∨ a = 6 ∨ a = 7 ∨ a = 8 ∨ a = 9 := by simp only at h1 h2; omega
    simp only [accAll, accT, sumT] at ih ⊢
    rw [← ih]
    rcases ha with rfl | rfl | rfl | rfl | rfl | rfl | rfl | rfl | rfl <;> simp <;> omega

theorem sum_zero {e : Ent} (h1 : (formedR e).2 = true) (h2 : (formedR e).1 = 0) : W (sumT e.ls) = 0 ∧ ∀ l, l ∈ e.ls → inAcc l := by
  cases hf : fgo 0 0 e.ls with
  | none => simp [formedR, hf] at h1
  | some s =>
    simp [formedR, hf] at h2
    obtain ⟨h3, h4⟩ := fgo_sum e.ls 0 0 s (Int.le_refl 0) W_zero hf
    rw [Int.zero_add] at h3
    exact ⟨h3.symm.trans h2, h4⟩

theorem accAll_add (f g : Int → Int) : accAll (fun a => f a + g a) = accAll f + accAll g := by simp only [accAll]; omega
theorem accAll_zero : accAll (fun _ => 0) = 0 := rfl
theorem addAll_zero (pf : Int → Bool) : ∀ (b : List Ent), (∀ e, e ∈ b → (formedR e).2 = true ∧ (formedR e).1 = 0) → W (accAll (fun a => addT a pf b)) = 0
  | [], _ => W_zero
  | e :: r, h => by
    have ih := addAll_zero pf r (fun e' he' => h e' (by simp [he']))
    obtain ⟨h1, h2⟩ := h e (by simp)
    obtain ⟨h3, h4⟩ := sum_zero h1 h2
    simp only [addT]
    rw [accAll_add, ← W_add', ih, Int.add_zero]
    by_cases hp : pf e.day = true
    · simp only [if_pos hp]
      rw [accAll_T e.ls h4]; exact h3
    · simp only [if_neg hp]
      exact W_zero

/-- Ten numbers, summed up from a place on. -/
def upR (g : Nat → Int) : Nat → Int → Nat → Int
  | 0, s, _ => s
  | n + 1, s, k => upR g n (IntKind.i64.wrap (s + g k)) (k + 1)
theorem upR_zero (b : List Ent) (day : Int) (h : ∀ e, e ∈ b → (formedR e).2 = true ∧ (formedR e).1 = 0) : upR (trialR b day) 10 0 0 = 0 := by
  have h1 := addAll_zero (fun d => decide (d ≤ day)) b h
  simp only [upR, W_def, trialR, addR_T]
  simp only [accAll] at h1
  simp only [Nat.reduceAdd, Nat.succ_ne_self, if_true, if_false, W_add, W_add', Int.add_zero, Int.zero_add, Nat.reduceEqDiff] 
  exact h1

theorem arr10_nth (g : Nat → Int) (i : Nat) (h : i < 10) : nth (arr10 g) i = .d (.int .i64 (g i)) := by
  have : i = 0 ∨ i = 1 ∨ i = 2 ∨ i = 3 ∨ i = 4 ∨ i = 5 ∨ i = 6 ∨ i = 7 ∨ i = 8 ∨ i = 9 := by omega
  rcases this with rfl | rfl | rfl | rfl | rfl | rfl | rfl | rfl | rfl | rfl <;> rfl

theorem zero_spec (l : List Ent) (day : Int) (hl : l.length ≤ 9223372036854775807) (hll : ∀ e, e ∈ l → e.ls.length ≤ 9223372036854775807) :
    Ctr Try.prog 5 [.d (slB l), .d (.int .i64 day)] [] (.d (.bool true)) [] [] := by
  refine pure5 (by simp) rfl rfl ?_
  intro c hP hfn
  simp only [c5, vcC_seq, vcC_reg, seqK_nrm, nrmK_app, initE, vcR_nil, vcR_n, isCall, makes, newOf, opR, evS, evV, evX, Go.Bx.get, St.stp, Ef.stp, lgs, setE, applyU, newN, Bool.false_eq_true, reduceCtorEq, ↓reduceIte, true_and, eq_self, Nat.zero_add]
  refine TR.pure (hP ▸ few_spec l hl) (by simp only [evS, evX, evSs, Go.Bx.get, ↓reduceIte, and_self, eq_self]) ?_
  simp only [vcC_seq, vcC_reg, vcC_skip, vcC_cond, seqK_nrm, nrmK_app, vcR_nil, vcR_n, isCall, makes, newOf, opR, evS, evV, evX, Go.Bx.get, St.stp, Ef.stp, lgs, setE, applyU, newN, Bool.false_eq_true, reduceCtorEq, ↓reduceIte, true_and, eq_self]
  refine ⟨fun h => ?_, fun h => ?_⟩
  · refine TR.pure (hP ▸ alive_spec) (by simp only [evSs]) ?_
    simp only [vcC_ret, seqK_nrm, seqK_ret, nrmK_app, vcR_nil, vcR_n, isCall, makes, newOf, opR, evS, evV, evX, Go.Bx.get, St.stp, Ef.stp, lgs, setE, applyU, newN, Bool.false_eq_true, ↓reduceIte, true_and, eq_self]
    exact RetK.pure (by simp only [rs5, ressS, resS, and_self]) (by simp only [rs5, retV, resV, Go.Bx.get, ↓reduceIte, eq_self, VLe_refl, Go.Bx.get, ↓reduceIte, eq_self])
  · have hok := okB_made l [] okB_nil
    have hb := okB_len hok
    have hbl := okB_lines hok
    refine TR.pure (hP ▸ made_spec l hl hll) (by simp only [evS, evX, evSs, Go.Bx.get, ↓reduceIte, and_self, eq_self]) ?_
    generalize madeR [] l = b at *
    simp only [vB, vcC_seq, vcC_reg, seqK_nrm, nrmK_app, vcR_nil, vcR_n, isCall, makes, newOf, opR, evS, evV, evX, Go.Bx.get, Go.Bx.own?, cellsV, isCell, cut, dropV, takeV, putV, St.stp, Ef.stp, lgs, setE, applyU, setO, newN, Option.getD_some, List.all_cons, List.all_nil, List.length_cons, List.length_nil, List.mem_cons, List.not_mem_nil, Bool.and_self, Bool.false_eq_true, ↓reduceIte, true_and, and_self, or_false, not_false_eq_true, eq_self, Nat.reduceEqDiff, Nat.zero_add, Nat.le_refl, Nat.succ_ne_self, Nat.zero_ne_one]
    refine TR.pure (hP ▸ trial_spec b day hb hbl) (by simp only [evS, evX, evSs, Go.Bx.get, ↓reduceIte, and_self, eq_self, Nat.succ_ne_self]) ?_
    simp only [vcC_block, seqK_nrm, nrmK_app, vcR_nil, vcR_n, isCall, makes, newOf, opR, evS, evV, evX, St.stp, Ef.stp, lgs, setE, applyU, newN, Bool.false_eq_true, ↓reduceIte, true_and]
    refine vcC.loop (X := Nat × Int) (fun x => ⟨[(5, .own 5 0), (6, .d (.int .i64 x.2)), (19, .ag (arr10 (trialR b day))), (20, .d (.int .i64 x.1))], [(5, .fix [.d (slB b)])], [5]⟩)
      (fun x => x.1 ≤ 10 ∧ upR (trialR b day) (10 - x.1) x.2 x.1 = 0) (fun x => 10 - x.1) (0, 0) ⟨Nat.zero_le _, upR_zero b day hok.2.1⟩ (Wk.of [] hfn rfl ?_ ?_) ?_
    · simp only [EnvLe, VLe_refl, Go.Bx.get, ↓reduceIte, and_self, eq_self, Nat.reduceEqDiff, Nat.succ_ne_self, Int.cast_ofNat_Int]
    · simp only [OwnLe, OLe_refl, exists_eq_left', Option.some.injEq, Go.Bx.own?, ↓reduceIte, and_self, eq_self]
    · rintro ⟨k, s⟩ ⟨hk, he⟩
      simp only at hk he
      simp only [arr10_len, vcC_seq, vcC_reg, vcC_skip, vcC_cond, vcC_block, vcC_exit, seqK_nrm, seqK_exit, blkK_nrm, blkK_exit, lopK_exit, nrmK_app, vcR_nil, vcR_n, isCall, makes, newOf, opR, binI, evS, evV, evX, Go.Bx.get, Go.Bx.own?, cut, nth, St.stp, Ef.stp, lgs, setE, applyU, newN, Ef.bad, List.length_cons, List.length_nil, Bool.false_eq_true, ↓reduceIte, true_and, and_true, and_self, forall_const, eq_self, Nat.reduceEqDiff, Nat.zero_add, Nat.add_zero, Nat.le_refl, Nat.succ_ne_self, Int.toNat_natCast, Int.cast_ofNat_Int, Nat.mul_one, Nat.one_mul]
      refine ⟨fun h1 => ?_, fun h1 => ?_⟩
      · have hlt : k < 10 := by have := of_decide_eq_true h1; omega
        have hw : IntKind.i64.wrap ((k : Int) + 1) = ((k + 1 : Nat) : Int) := (IntWalk.i64_in _ (by omega)).trans (by omega)
        simp only [arr10_nth _ k hlt, applyU, newN, true_and, and_self, eq_self]
        refine ⟨by omega, lopK.on (k + 1, IntKind.i64.wrap (s + trialR b day k)) ⟨hlt, ?_⟩ (by simp only; omega) (Wk.of [] hfn rfl ?_ ?_)⟩
        · rw [show 10 - k = 10 - (k + 1) + 1 by omega, upR] at he
          exact he
        · simp only [EnvLe, VLe_refl, VLe_int, Go.Bx.get, ↓reduceIte, true_and, and_true, eq_self, Nat.reduceEqDiff, Nat.succ_ne_self]; exact hw
        · simp only [OwnLe, OLe_refl, exists_eq_left', Option.some.injEq, Go.Bx.own?, ↓reduceIte, and_self, eq_self]
      · have hk10 : k = 10 := by have := of_decide_eq_false h1; omega
        subst hk10
        have hs0 : s = 0 := he
        subst hs0
        simp only [slB, applyU, newN, true_and, decide_false, Int.cast_ofNat_Int, Int.reduceLT]
        refine vcC.loop (X := Nat) (fun x => ⟨[(5, .own 5 0), (6, .d (.int .i64 0)), (28, .d (slB b)), (29, .d (.int .i64 b.length)), (30, .d (.int .i64 x))], [(5, .fix [.d (slB b)])], [5]⟩)
          (fun x => x ≤ b.length) (fun x => b.length - x) 0 (Nat.zero_le _) (Wk.of [] hfn rfl ?_ ?_) ?_
        · simp only [slB, EnvLe, VLe_refl, Go.Bx.get, ↓reduceIte, and_self, eq_self, Nat.reduceEqDiff, Nat.succ_ne_self, Int.cast_ofNat_Int]
        · simp only [slB, OwnLe, OLe_refl, exists_eq_left', Option.some.injEq, Go.Bx.own?, ↓reduceIte, and_self, eq_self]
        · rintro k hk
          simp only [slB, vcC_seq, vcC_reg, vcC_drw, vcC_skip, vcC_cond, vcC_block, vcC_exit, seqK_nrm, seqK_exit, blkK_exit, lopK_exit, nrmK_app, vcR_nil, vcR_n, isCall, makes, newOf, opR, binI, evS, evV, evX, Go.Bx.get, Go.Bx.own?, cellsV, isCell, cut, cutD, dropV, takeV, dropD, takeDV, putV, St.stp, Ef.stp, Stp.lg, lgs, setE, applyU, setO, newN, Option.getD_some, List.all_cons, List.all_nil, List.map_nil, List.append_nil, List.nil_append, List.length_cons, List.length_nil, List.mem_cons, List.not_mem_nil, Bool.and_self, Bool.false_eq_true, ↓reduceIte, true_and, and_true, and_self, or_false, not_false_eq_true, eq_self, Nat.reduceAdd, Nat.reduceEqDiff, Nat.zero_add, Nat.le_refl, Nat.succ_ne_self, Int.toNat_natCast]
          refine ⟨fun h1 => ?_, fun h1 => ?_⟩
          · have hlt : k < b.length := by simpa using h1
            have hgd : b.getD k default = b[k] := by simp [hlt]
            have hw : IntKind.i64.wrap ((k : Int) + 1) = ((k + 1 : Nat) : Int) := (IntWalk.i64_in _ (by omega)).trans (by omega)
            have hw1 : 0 < k → IntKind.i64.wrap ((k : Int) - 1) = ((k - 1 : Nat) : Int) := fun h => (IntWalk.i64_in _ (by omega)).trans (by omega)
            have hgood := hok.2.1 b[k] (List.getElem_mem hlt)
            have hord := hok.2.2 k
            rw [hgd] at hord ⊢
            refine ⟨by omega, ?_⟩
            refine TR.pure (hP ▸ right_spec b[k] (hbl _ (List.getElem_mem hlt))) (by simp only [evS, evX, evSs, Go.Bx.get, ↓reduceIte, and_self, eq_self]) ?_
            have hr : ((formedR b[k]).2 && ((formedR b[k]).1 == 0)) = true := by rw [hgood.1, hgood.2]; rfl
            simp only [hr, vcC_seq, vcC_reg, vcC_skip, vcC_cond, vcC_ret, seqK_nrm, seqK_ret, blkK_nrm, blkK_ret, lopK_ret, nrmK_app, drwK_app, vcR_nil, vcR_n, vcR_s, isCall, makes, isStore, newOf, opR, binI, pickV, evS, evV, evX, gOf, Go.Bx.get, Go.Bx.own?, cut, cutD, nth, nthD, dropD, St.stp, Ef.stp, Stp.lg, lgs, setE, applyU, newN, List.map_nil, List.append_nil, List.nil_append, List.cons_append, List.length_cons, List.length_nil, Bool.true_and, Bool.and_self, Bool.not_true, Bool.not_false, Bool.or_self, Bool.false_eq_true, Bool.cond_false_right, cond_false, ↓reduceIte, true_and, and_true, and_self, forall_const, implies_true, imp_self, eq_self, Nat.reduceAdd, Nat.reduceLeDiff, Nat.reduceEqDiff, Nat.zero_add, Nat.add_zero, Nat.le_refl, Nat.succ_ne_self]
            refine ⟨fun h2 => ?_, rfl, fun h2 => ?_, fun h2 => ?_⟩
            · have h2 := of_decide_eq_true h2
              rw [hw1 (by omega)]
              omega
            · simp only [Bool.and_eq_true, decide_eq_true_eq] at h2
              rw [hw1 (by omega), Int.toNat_natCast] at h2
              have := hord (by omega) hlt
              omega
            · refine lopK.on (k + 1) hlt (by omega) (Wk.of [] hfn rfl ?_ ?_)
              · simp only [EnvLe, VLe_refl, VLe_int, Go.Bx.get, ↓reduceIte, true_and, and_true, eq_self, Nat.reduceEqDiff, Nat.succ_ne_self]; exact hw
              · simp only [OwnLe, OLe_refl, exists_eq_left', Option.some.injEq, Go.Bx.own?, ↓reduceIte, and_self, eq_self]
          · refine TR.pure (hP ▸ alive_spec) (by simp only [evSs]) ?_
            simp only [vcC_ret, seqK_nrm, nrmK_app, vcR_nil, vcR_n, vcR_s, isCall, makes, isStore, newOf, opR, binI, pickV, evS, evV, evX, gOf, Go.Bx.get, St.stp, Ef.stp, lgs, setE, applyU, newN, Bool.and_self, Bool.or_self, Bool.false_eq_true, cond_true, ↓reduceIte, true_and, and_self, forall_const, eq_self, Nat.reduceEqDiff, Nat.succ_ne_self, beq_self_eq_true]
            exact RetK.pure (by simp only [rs5, ressS, resS, and_self]) (by simp only [rs5, retV, resV, Go.Bx.get, ↓reduceIte, eq_self, VLe_refl, Go.Bx.get, ↓reduceIte, eq_self])

end Go.Proofs.Ytllakgjfgdgfiaa
