import Derived.Test.YtllakgjfgdgfiaaCode
namespace Go.Proofs.Ytllakgjfgdgfiaa
open Go.Bx

/-- Lines, entries, books, as data. -/
def slL (ls : List (Int × Int)) : D := .sl false 2 ls.length (fun i => [.int .i64 (ls.getD i (0,0)).1, .int .i64 (ls.getD i (0,0)).2])
structure Ent where
  day : Int
  fo : Int
  ls : List (Int × Int)
instance : Inhabited Ent := ⟨⟨0, 0, []⟩⟩
def slB (es : List Ent) : D := .sl false 3 es.length (fun i => [.int .i64 (es.getD i default).day, .int .i64 (es.getD i default).fo, slL (es.getD i default).ls])
def vE (e : Ent) : V := .ag [.d (.int .i64 e.day), .d (.int .i64 e.fo), .d (slL e.ls)]
def vB (b : List Ent) : V := .ag [.d (slB b)]

def badL (last : Int) (l : Int × Int) : Bool := ((((decide (l.1 ≤ last) || decide (l.1 > 9)) || (l.2 == 0)) || decide (l.2 < -1000000000000000)) || decide (l.2 > 1000000000000000))
def fgo : Int → Int → List (Int × Int) → Option Int
  | s, _, [] => some s
  | s, last, l :: r => if badL last l = true then none else fgo (IntKind.i64.wrap (s + l.2)) l.1 r

def formedR (e : Ent) : Int × Bool :=
  match fgo 0 0 e.ls with
  | none => (0, false)
  | some s => (s, decide (e.day ≥ 1) && decide (e.day ≤ 292194) && decide (e.fo ≥ 0) && decide (e.fo ≤ 1000000000) && decide ((e.ls.length : Int) ≥ 2))

theorem formed_spec (e : Ent) (hl : e.ls.length ≤ 9223372036854775807) :
    Ctr Try.prog 25 [vE e] [] (.tup [.d (.int .i64 (formedR e).1), .d (.bool (formedR e).2)]) [] [] := by
  obtain ⟨day, fo, ls⟩ := e
  simp only at hl
  refine pure25 (by simp) rfl rfl ?_
  intro c hP hfn
  simp only [c25, vE, slL, vcC_seq, vcC_reg, vcC_block, seqK_nrm, nrmK_app, initE, vcR_nil, vcR_n, isCall, makes, newOf, opR, evS, evV, evX, Go.Bx.get, Go.Bx.own?, cellsV, isCell, cut, nth, St.stp, Ef.stp, lgs, setE, applyU, setO, newN, Option.getD_some, List.all_cons, List.all_nil, List.length_cons, List.length_nil, List.not_mem_nil, Bool.and_self, Bool.false_eq_true, ↓reduceIte, true_and, and_self, not_false_eq_true, eq_self, Nat.reduceAdd, Nat.reduceEqDiff, Nat.zero_add, Nat.le_refl, Nat.succ_ne_self]
  refine vcC.loop (X := Nat × Int × Int) (fun x => ⟨[(1, .own 1 0), (4, .d (.int .i64 x.2.1)), (5, .d (.int .i64 x.2.2)), (9, .d (slL ls)), (10, .d (.int .i64 ls.length)), (11, .d (.int .i64 x.1))],
     [(1, .fix [.d (.int .i64 day), .d (.int .i64 fo), .d (slL ls)])], [1]⟩)
    (fun x => x.1 ≤ ls.length ∧ fgo 0 0 ls = fgo x.2.1 x.2.2 (ls.drop x.1)) (fun x => ls.length - x.1) (0, 0, 0) ⟨Nat.zero_le _, rfl⟩ (Wk.of [] hfn rfl ?_ ?_) ?_
  · simp only [slL, EnvLe, VLe_refl, Go.Bx.get, ↓reduceIte, and_self, eq_self, Nat.reduceEqDiff, Nat.succ_ne_self, Int.cast_ofNat_Int]
  · simp only [slL, OwnLe, OLe_refl, exists_eq_left', Option.some.injEq, Go.Bx.own?, ↓reduceIte, and_self, eq_self]
  · rintro ⟨k, s, la⟩ ⟨hk, he⟩
    simp only at hk he
    simp only [slL, vcC_seq, vcC_reg, vcC_drw, vcC_skip, vcC_cond, vcC_block, vcC_exit, vcC_ret, seqK_nrm, seqK_exit, seqK_ret, blkK_nrm, blkK_exit, blkK_ret, lopK_exit, lopK_ret, nrmK_app, drwK_app, vcR_nil, vcR_n, vcR_s, isCall, makes, isStore, newOf, opR, binI, pickV, evS, evV, evX, gOf, Go.Bx.get, Go.Bx.own?, cellsV, isCell, cut, cutD, nth, dropD, takeDV, putV, St.stp, Ef.stp, Stp.lg, lgs, setE, applyU, setO, newN, Option.getD_some, List.all_cons, List.all_nil, List.map_nil, List.append_nil, List.nil_append, List.cons_append, List.length_cons, List.length_nil, List.mem_cons, List.not_mem_nil, Bool.true_and, Bool.and_self, Bool.or_self, Bool.false_eq_true, Bool.cond_true_left, Bool.cond_false_right, ↓reduceIte, true_and, and_true, and_self, or_false, not_false_eq_true, forall_const, implies_true, imp_self, eq_self, Nat.reduceAdd, Nat.reduceLeDiff, Nat.reduceEqDiff, Nat.zero_add, Nat.add_zero, Nat.le_refl, Nat.succ_ne_self, Int.toNat_natCast]
    refine ⟨fun h1 => ?_, fun h1 => ?_⟩
    · have hlt : k < ls.length := by simpa using h1
      have hd : ls.drop k = ls[k] :: ls.drop (k + 1) := List.drop_eq_getElem_cons hlt
      have hg : ls.getD k (0, 0) = ls[k] := by simp [hlt]
      refine ⟨by omega, fun h2 => ?_, fun h2 => ?_⟩
      · refine RetK.pure (by simp only [rs25, ressS, resS, and_self]) (VLe.tups ?_)
        have : formedR ⟨day, fo, ls⟩ = (0, false) := by
          simp only [formedR]
          rw [he, hd, fgo, if_pos]
          rw [← hg]; exact h2
        simp only [ressV, resV, Go.Bx.get, ↓reduceIte, and_self, eq_self, Nat.succ_ne_self, VLe_refl, VsLe, Go.Bx.get, ↓reduceIte, and_self, eq_self, Nat.succ_ne_self, this]
      · refine ⟨rfl, lopK.on (k + 1, IntKind.i64.wrap (s + (ls.getD k (0, 0)).2), (ls.getD k (0, 0)).1) ⟨hlt, ?_⟩ (by simp only; omega) (Wk.of [] hfn rfl ?_ ?_)⟩
        · rw [he, hd, fgo, if_neg, hg]
          rw [← hg]
          show ¬ (badL la _ = true)
          rw [badL, h2]
          simp
        · simp only [EnvLe, VLe_refl, VLe_int, Go.Bx.get, ↓reduceIte, true_and, and_true, eq_self, Nat.reduceEqDiff, Nat.succ_ne_self]
          exact (IntWalk.i64_in _ (by omega)).trans (by omega)
        · simp only [OwnLe, OLe_refl, exists_eq_left', Option.some.injEq, Go.Bx.own?, ↓reduceIte, and_self, eq_self]
    · have hkl : k = ls.length := by simp at h1; omega
      refine ⟨rfl, ?_⟩
      refine RetK.pure (by simp only [rs25, ressS, resS, and_self]) (VLe.tups ?_)
      have : formedR ⟨day, fo, ls⟩ = (s, decide (day ≥ 1) && decide (day ≤ 292194) && decide (fo ≥ 0) && decide (fo ≤ 1000000000) && decide ((ls.length : Int) ≥ 2)) := by
        simp only [formedR]
        rw [he, hkl]
        simp [fgo]
      simp only [ressV, resV, Go.Bx.get, ↓reduceIte, and_self, eq_self, Nat.succ_ne_self, VLe_refl, VsLe, Go.Bx.get, ↓reduceIte, and_self, eq_self, Nat.succ_ne_self, this]

theorem clone_spec (ls : List (Int × Int)) (hl : ls.length ≤ 9) : Ctr Try.prog 34 [.d (slL ls)] [] (.d (slL ls)) [] [] := by
  refine pure34 (by simp) rfl rfl ?_
  intro c hP hfn
  simp only [c34, slL, vcC_seq, vcC_reg, vcC_skip, vcC_cond, vcC_ret, seqK_nrm, seqK_ret, nrmK_app, initE, vcR_nil, vcR_n, isCall, makes, newOf, opR, evS, evV, evX, evSs, evVs, catV, Go.Bx.get, toDs, St.stp, Ef.stp, lgs, setE, applyU, setO, newN, Option.getD_some, List.not_mem_nil, Bool.false_eq_true, reduceCtorEq, ↓reduceIte, true_and, and_true, and_self, not_false_eq_true, forall_const, implies_true, eq_self, Nat.zero_add, Nat.succ_ne_self, Nat.not_lt_zero, Nat.sub_zero, true_or]
  refine ⟨fun h => ?_, ?_⟩
  · refine RetK.pure (by simp only [rs34, ressS, resS, and_self]) ?_
    simp only [rs34, retV, resV, Go.Bx.get, ↓reduceIte, eq_self]
    exact VLe.sl h.symm (by intro h; exact absurd h (Nat.lt_irrefl 0)) (by simp) (by intro i hi; exact absurd hi (Nat.not_lt_zero i))
  · refine ⟨by simp only [maxLen]; omega, ?_⟩
    refine RetK.mk _ (Wk.pub 7 rfl) (by simp only [rs34, ressS, resS, delO, ↓reduceIte, and_self, eq_self, pubE, pubV, pubO]) ?_ trivial
    simp only [rs34, retV, resV, Go.Bx.get, ↓reduceIte, eq_self, pubE, pubV, VLe_refl]

theorem right_spec (e : Ent) (hl : e.ls.length ≤ 9223372036854775807) : Ctr Try.prog 11 [vE e] [] (.d (.bool ((formedR e).2 && ((formedR e).1 == 0)))) [] [] := by
  refine pure11 (by simp) rfl rfl ?_
  intro c hP hfn
  simp only [c11, vE, vcC_seq, vcC_reg, seqK_nrm, nrmK_app, initE, vcR_nil, vcR_n, isCall, makes, newOf, opR, evS, evV, evX, Go.Bx.get, Go.Bx.own?, cellsV, isCell, cut, dropV, takeV, St.stp, Ef.stp, lgs, setE, applyU, setO, newN, Option.getD_some, List.all_cons, List.all_nil, List.length_cons, List.length_nil, List.not_mem_nil, Bool.and_self, Bool.false_eq_true, ↓reduceIte, true_and, and_self, not_false_eq_true, eq_self, Nat.reduceAdd, Nat.zero_add, Nat.le_refl, Nat.succ_ne_self]
  refine TR.pure (hP ▸ formed_spec e hl) (by simp only [evS, evX, evSs, Go.Bx.get, ↓reduceIte, and_self, eq_self]) ?_
  simp only [vcC_seq, vcC_reg, vcC_ret, seqK_nrm, nrmK_app, vcR_nil, vcR_n, vcR_s, isCall, makes, isStore, newOf, opR, binI, pickV, evS, evV, evX, gOf, Go.Bx.get, nth, St.stp, Ef.stp, lgs, setE, applyU, newN, List.length_cons, List.length_nil, Bool.true_and, Bool.or_self, Bool.false_eq_true, Bool.cond_false_right, ↓reduceIte, true_and, and_true, and_self, forall_const, implies_true, imp_self, eq_self, Nat.reduceAdd, Nat.reduceEqDiff, Nat.zero_add, Nat.succ_ne_self, Nat.reduceLT]
  exact RetK.pure (by simp only [rs11, ressS, resS, and_self]) (by simp only [rs11, retV, resV, Go.Bx.get, ↓reduceIte, eq_self, VLe_refl, Go.Bx.get, ↓reduceIte, eq_self])

def putR (b : List Ent) (e : Ent) : List Ent × Int :=
  if (formedR e).2 = false then ([], 1)
  else if (formedR e).1 ≠ 0 then ([], 13)
  else if b.length ≥ 2000 then ([], 2)
  else if b ≠ [] ∧ e.day < (b.getD (b.length - 1) default).day then ([], 4)
  else (b ++ [e], 0)

theorem nilB : VLe (.d (.sl true 0 0 fun _ => [])) (.d (slB [])) :=
  VLe.sl rfl (by intro h; exact absurd h (Nat.lt_irrefl 0)) (by simp) (by intro i hi; exact absurd hi (Nat.not_lt_zero i))

theorem fgo_bound : ∀ (ls : List (Int × Int)) (s la r : Int), la ≤ 9 → fgo s la ls = some r → (ls.length : Int) ≤ 9 - la
  | [], s, la, r, h, _ => by simp; omega
  | l :: ls, s, la, r, h, hf => by
    rw [fgo] at hf
    split at hf
    · cases hf
    · rename_i hb
      simp only [badL, Bool.or_eq_true, decide_eq_true_eq, beq_iff_eq] at hb
      have := fgo_bound ls _ l.1 r (by omega) hf
      simp only [List.length_cons]
      omega
theorem formed_bound {e : Ent} (h : (formedR e).2 = true) : e.ls.length ≤ 9 := by
  cases hf : fgo 0 0 e.ls with
  | none => simp [formedR, hf] at h
  | some s => have := fgo_bound e.ls 0 0 s (by omega) hf; omega

theorem put_spec (b : List Ent) (e : Ent) (hl : e.ls.length ≤ 9223372036854775807) : Ctr Try.prog 21 [vB b, vE e] [] (.tup [vB (putR b e).1, .d (.int .i64 (putR b e).2)]) [] [] := by
  refine pure21 (by simp) rfl rfl ?_
  intro c hP hfn
  simp only [c21, vE, vB, vcC_seq, vcC_reg, seqK_nrm, nrmK_app, initE, vcR_nil, vcR_n, isCall, makes, newOf, opR, evS, evV, evX, Go.Bx.get, Go.Bx.own?, cellsV, isCell, cut, dropV, takeV, St.stp, Ef.stp, lgs, setE, applyU, setO, newN, Option.getD_some, List.all_cons, List.all_nil, List.length_cons, List.length_nil, List.mem_cons, List.not_mem_nil, Bool.and_self, Bool.false_eq_true, ↓reduceIte, true_and, and_self, or_false, not_false_eq_true, eq_self, Nat.reduceAdd, Nat.reduceEqDiff, Nat.zero_add, Nat.le_refl, Nat.succ_ne_self, Nat.zero_ne_one]
  refine TR.pure (hP ▸ formed_spec e (by omega)) (by simp only [evS, evX, evSs, Go.Bx.get, ↓reduceIte, and_self, eq_self]) ?_
  simp only [slB, vcC_seq, vcC_reg, vcC_drw, vcC_skip, vcC_cond, vcC_block, vcC_ret, seqK_nrm, seqK_ret, blkK_nrm, blkK_ret, nrmK_app, drwK_app, vcR_nil, vcR_n, vcR_s, isCall, makes, isStore, newOf, opR, binI, pickV, evS, evV, evX, evParts, evPartsS, fillV, gOf, Go.Bx.get, Go.Bx.own?, cellsV, isCell, cut, cutD, nth, nthD, dropD, putV, St.stp, Ef.stp, Stp.lg, lgs, setE, applyU, setO, newN, List.all_cons, List.all_nil, List.map_nil, List.append_nil, List.nil_append, List.cons_append, List.length_cons, List.length_nil, List.mem_cons, List.not_mem_nil, Bool.true_and, Bool.and_self, Bool.or_self, Bool.false_eq_true, Bool.cond_false_right, ↓reduceIte, true_and, and_true, and_self, or_false, forall_const, implies_true, imp_self, eq_self, Nat.reduceAdd, Nat.reduceLeDiff, Nat.reduceEqDiff, Nat.zero_add, Nat.add_zero, Nat.le_refl, Nat.succ_ne_self, Nat.reduceLT]
  have fin : ∀ k : Int, putR b e = ([], k) → VsLe [V.ag [V.d (D.sl true 0 0 fun _ => [])], V.d (D.int .i64 k)] [vB (putR b e).1, V.d (D.int .i64 (putR b e).2)] := fun k h => by
    rw [h]
    exact ⟨VLe.ags ⟨nilB, trivial⟩, VLe.refl _, trivial⟩
  refine ⟨fun h => ?_, fun h => ?_⟩
  · have h : (formedR e).2 = false := by simpa using h
    refine RetK.pure (by simp only [rs21, ressS, resS, Go.Bx.get, Go.Bx.own?, List.length_cons, List.length_nil, ↓reduceIte, and_self, eq_self, Nat.reduceEqDiff, Nat.zero_add, Nat.le_refl, Nat.succ_ne_self]) (VLe.tups ?_)
    simp only [ressV, resV, Go.Bx.get, Go.Bx.own?, cut, dropV, takeV, ↓reduceIte, eq_self, Nat.reduceEqDiff, Nat.succ_ne_self]
    exact fin 1 (by simp [putR, h])
  have h1 : (formedR e).2 = true := by simpa using h
  refine ⟨fun h => ?_, fun h => ?_⟩
  · have h : (formedR e).1 ≠ 0 := by simpa using h
    refine RetK.pure (by simp only [rs21, ressS, resS, Go.Bx.get, Go.Bx.own?, List.length_cons, List.length_nil, ↓reduceIte, and_self, eq_self, Nat.reduceEqDiff, Nat.zero_add, Nat.le_refl, Nat.succ_ne_self]) (VLe.tups ?_)
    simp only [ressV, resV, Go.Bx.get, Go.Bx.own?, cut, dropV, takeV, ↓reduceIte, eq_self, Nat.reduceEqDiff, Nat.succ_ne_self]
    exact fin 13 (by simp [putR, h, h1])
  have h2 : (formedR e).1 = 0 := by simpa using h
  refine ⟨fun h => ?_, fun h => ?_⟩
  · have h : b.length ≥ 2000 := by have := of_decide_eq_true h; omega
    refine RetK.pure (by simp only [rs21, ressS, resS, Go.Bx.get, Go.Bx.own?, List.length_cons, List.length_nil, ↓reduceIte, and_self, eq_self, Nat.reduceEqDiff, Nat.zero_add, Nat.le_refl, Nat.succ_ne_self]) (VLe.tups ?_)
    simp only [ressV, resV, Go.Bx.get, Go.Bx.own?, cut, dropV, takeV, ↓reduceIte, eq_self, Nat.reduceEqDiff, Nat.succ_ne_self]
    exact fin 2 (by simp [putR, h, h1, h2])
  have h3 : ¬ b.length ≥ 2000 := by have := of_decide_eq_false h; omega
  have hw : 0 < b.length → IntKind.i64.wrap ((b.length : Int) - 1) = ((b.length - 1 : Nat) : Int) := fun h => (IntWalk.i64_in _ (by omega)).trans (by omega)
  refine ⟨fun h => ?_, rfl, fun h => ?_, fun h => ?_⟩
  · have h := of_decide_eq_true h
    rw [hw (by omega)]
    omega
  · simp only [Bool.and_eq_true, decide_eq_true_eq] at h
    rw [hw (by omega)] at h
    refine RetK.pure (by simp only [rs21, ressS, resS, Go.Bx.get, Go.Bx.own?, List.length_cons, List.length_nil, ↓reduceIte, and_self, eq_self, Nat.reduceEqDiff, Nat.zero_add, Nat.le_refl, Nat.succ_ne_self]) (VLe.tups ?_)
    simp only [ressV, resV, Go.Bx.get, Go.Bx.own?, cut, dropV, takeV, ↓reduceIte, eq_self, Nat.reduceEqDiff, Nat.succ_ne_self]
    refine fin 4 ?_
    rw [putR, if_neg (by simp [h1]), if_neg (by simp [h2]), if_neg h3, if_pos ⟨by intro hb; simp [hb] at h, by simpa using h.2⟩]
  · have hput : putR b e = (b ++ [e], 0) := by
      rw [putR, if_neg (by simp [h1]), if_neg (by simp [h2]), if_neg h3, if_neg]
      rintro ⟨h5, h6⟩
      have h7 : 0 < b.length := List.length_pos_iff.2 h5
      rw [hw h7] at h
      simp only [Int.toNat_natCast, Bool.and_eq_false_iff, decide_eq_false_iff_not] at h
      omega
    refine TR.pure (hP ▸ clone_spec e.ls (formed_bound h1)) (by simp only [evS, evX, evSs, Go.Bx.get, ↓reduceIte, and_self, eq_self]) ?_
    simp only [↓evSo_some, vcC_seq, vcC_drw, vcC_ret, seqK_nrm, nrmK_app, drwK_app, vcR_nil, vcR_n, isCall, makes, newOf, opR, evS, evV, evX, evSs, evVs, evParts, evPartsS, fillV, catV, Go.Bx.get, Go.Bx.own?, cellsV, isCell, cut, nth, dropV, takeV, putV, toDs, St.stp, Ef.stp, Stp.lg, lgs, setE, applyU, setO, newN, Option.getD_some, Option.map_some, Option.map_none, List.all_cons, List.all_nil, List.map_cons, List.map_nil, List.append_nil, List.nil_append, List.cons_append, List.length_cons, List.length_nil, List.mem_cons, List.not_mem_nil, Bool.and_self, Bool.false_eq_true, ↓reduceIte, true_and, and_true, and_self, or_false, not_false_eq_true, forall_const, implies_true, eq_self, Nat.reduceAdd, Nat.reduceEqDiff, Nat.zero_add, Nat.add_zero, Nat.le_refl, Nat.succ_ne_self, Int.toNat_natCast, litRow, Nat.reduceLT, decide_true, or_true, Int.le_refl]
    refine ⟨by omega, by simp only [maxLen]; omega, rfl, ?_⟩
    refine RetK.mk _ (Wk.pub 56 rfl) (by simp only [rs21, ressS, resS, Go.Bx.get, Go.Bx.own?, delO, List.length_cons, List.length_nil, ↓reduceIte, and_self, eq_self, Nat.reduceEqDiff, Nat.zero_add, Nat.le_refl, Nat.succ_ne_self, pubE, pubV, pubL, pubO]) ?_ trivial
    simp only [rs21, retV, ressV, resV, Go.Bx.get, Go.Bx.own?, cut, dropV, takeV, delO, ↓reduceIte, eq_self, Nat.reduceEqDiff, Nat.succ_ne_self, pubE, pubV, pubL, pubO]
    rw [hput]
    refine VLe.tups ⟨VLe.ags ⟨?_, trivial⟩, VLe.refl _, trivial⟩
    refine VLe.sl (by simp) (fun _ => rfl) id fun i hi => ?_
    by_cases h5 : i < b.length
    · simp [h5, List.getElem?_append_left]
    · have h6 : i = b.length := by omega
      subst h6
      simp

/-- Spans. -/
def okS (p : Int × Int) : Bool := decide (p.1 ≥ 1) && decide (p.1 ≤ p.2) && decide (p.2 ≤ 292195)
def keptR (p : Int × Int) : Int × Int := if (!(okS p) || p.1 == p.2) = true then (0, 0) else p
def inR (p : Int × Int) (d : Int) : Bool := decide (d ≥ (keptR p).1) && decide (d < (keptR p).2)
def vS (p : Int × Int) : V := .ag [.d (.int .i64 p.1), .d (.int .i64 p.2)]

theorem sright_spec (p : Int × Int) : Ctr Try.prog 38 [vS p] [] (.d (.bool (okS p))) [] [] := by
  refine pure38 (by simp) rfl rfl ?_
  intro c hP hfn
  simp only [c38, vS, okS, vcC_seq, vcC_reg, vcC_ret, seqK_nrm, nrmK_app, initE, vcR_nil, vcR_n, vcR_s, isCall, makes, isStore, newOf, opR, binI, pickV, evS, evV, evX, gOf, Go.Bx.get, Go.Bx.own?, cellsV, isCell, cut, nth, St.stp, Ef.stp, lgs, setE, applyU, setO, newN, Option.getD_some, List.all_cons, List.all_nil, List.length_cons, List.length_nil, List.not_mem_nil, Bool.true_and, Bool.and_self, Bool.or_self, Bool.false_eq_true, Bool.cond_false_right, ↓reduceIte, true_and, and_true, and_self, not_false_eq_true, forall_const, implies_true, imp_self, eq_self, Nat.reduceAdd, Nat.reduceLeDiff, Nat.reduceEqDiff, Nat.zero_add, Nat.add_zero, Nat.le_refl, Nat.succ_ne_self]
  exact RetK.pure (by simp only [rs38, ressS, resS, and_self]) (by simp only [rs38, retV, resV, Go.Bx.get, ↓reduceIte, eq_self, VLe_refl, Go.Bx.get, ↓reduceIte, eq_self])

theorem kept_spec (p : Int × Int) : Ctr Try.prog 36 [vS p] [] (vS (keptR p)) [] [] := by
  refine pure36 (by simp) rfl rfl ?_
  intro c hP hfn
  simp only [c36, vS, vcC_seq, vcC_reg, seqK_nrm, nrmK_app, initE, vcR_nil, vcR_n, isCall, makes, newOf, opR, evS, evV, evX, Go.Bx.get, Go.Bx.own?, cellsV, isCell, cut, dropV, takeV, St.stp, Ef.stp, lgs, setE, applyU, setO, newN, Option.getD_some, List.all_cons, List.all_nil, List.length_cons, List.length_nil, List.mem_cons, List.not_mem_nil, Bool.and_self, Bool.false_eq_true, ↓reduceIte, true_and, and_self, or_false, not_false_eq_true, eq_self, Nat.reduceAdd, Nat.reduceEqDiff, Nat.zero_add, Nat.le_refl, Nat.succ_ne_self]
  refine TR.pure (hP ▸ sright_spec p) (by simp only [evS, evX, evSs, Go.Bx.get, ↓reduceIte, and_self, eq_self]) ?_
  simp only [vcC_seq, vcC_reg, vcC_skip, vcC_cond, vcC_ret, seqK_nrm, seqK_ret, nrmK_app, vcR_nil, vcR_n, vcR_s, isCall, makes, isStore, newOf, opR, binI, pickV, evS, evV, evX, evParts, evPartsS, fillV, gOf, Go.Bx.get, Go.Bx.own?, cellsV, isCell, cut, nth, dropV, takeV, putV, St.stp, Ef.stp, lgs, setE, applyU, setO, newN, List.all_cons, List.all_nil, List.length_cons, List.length_nil, List.mem_cons, List.not_mem_nil, Bool.true_and, Bool.and_self, Bool.or_self, Bool.false_eq_true, Bool.cond_true_left, ↓reduceIte, true_and, and_true, and_self, or_false, forall_const, implies_true, imp_self, eq_self, Nat.reduceAdd, Nat.reduceLeDiff, Nat.reduceEqDiff, Nat.zero_add, Nat.add_zero, Nat.le_refl, Nat.succ_ne_self]
  refine ⟨fun h => ?_, fun h => ?_⟩
  · exact RetK.pure (by simp only [rs36, ressS, resS, Go.Bx.get, Go.Bx.own?, List.length_cons, List.length_nil, ↓reduceIte, and_self, eq_self, Nat.reduceAdd, Nat.reduceEqDiff, Nat.zero_add, Nat.le_refl, Nat.succ_ne_self]) (by simp only [rs36, retV, resV, Go.Bx.get, Go.Bx.own?, cut, dropV, takeV, ↓reduceIte, eq_self, Nat.reduceEqDiff, Nat.succ_ne_self, keptR, if_pos h, VLe_refl, Go.Bx.get, Go.Bx.own?, cut, dropV, takeV, ↓reduceIte, eq_self, Nat.reduceEqDiff, Nat.succ_ne_self])
  · exact RetK.pure (by simp only [rs36, ressS, resS, Go.Bx.get, Go.Bx.own?, List.length_cons, List.length_nil, ↓reduceIte, and_self, eq_self, Nat.reduceAdd, Nat.reduceEqDiff, Nat.zero_add, Nat.le_refl, Nat.succ_ne_self]) (by simp only [rs36, retV, resV, Go.Bx.get, Go.Bx.own?, cut, dropV, takeV, Bool.false_eq_true, ↓reduceIte, eq_self, Nat.reduceEqDiff, Nat.succ_ne_self, keptR, h, VLe_refl, Go.Bx.get, Go.Bx.own?, cut, dropV, takeV, Bool.false_eq_true, ↓reduceIte, eq_self, Nat.reduceEqDiff, Nat.succ_ne_self])

theorem in_spec (p : Int × Int) (d : Int) : Ctr Try.prog 32 [vS p, .d (.int .i64 d)] [] (.d (.bool (inR p d))) [] [] := by
  refine pure32 (by simp) rfl rfl ?_
  intro c hP hfn
  simp only [c32, vS, inR, vcC_seq, vcC_reg, seqK_nrm, nrmK_app, initE, vcR_nil, vcR_n, isCall, makes, newOf, opR, evS, evV, evX, Go.Bx.get, Go.Bx.own?, cellsV, isCell, cut, dropV, takeV, St.stp, Ef.stp, lgs, setE, applyU, setO, newN, Option.getD_some, List.all_cons, List.all_nil, List.length_cons, List.length_nil, List.not_mem_nil, Bool.and_self, Bool.false_eq_true, ↓reduceIte, true_and, and_self, not_false_eq_true, eq_self, Nat.reduceAdd, Nat.reduceEqDiff, Nat.zero_add, Nat.le_refl]
  refine TR.pure (hP ▸ kept_spec p) (by simp only [evS, evX, evSs, Go.Bx.get, ↓reduceIte, and_self, eq_self]) ?_
  simp only [vS, vcC_seq, vcC_reg, vcC_ret, seqK_nrm, nrmK_app, vcR_nil, vcR_n, vcR_s, isCall, makes, isStore, newOf, opR, binI, pickV, evS, evV, evX, gOf, Go.Bx.get, Go.Bx.own?, cellsV, isCell, cut, nth, putV, St.stp, Ef.stp, lgs, setE, applyU, setO, newN, List.all_cons, List.all_nil, List.length_cons, List.length_nil, List.mem_cons, List.not_mem_nil, Bool.true_and, Bool.and_self, Bool.or_self, Bool.false_eq_true, Bool.cond_false_right, ↓reduceIte, true_and, and_true, and_self, or_false, forall_const, implies_true, imp_self, eq_self, Nat.reduceAdd, Nat.reduceLeDiff, Nat.reduceEqDiff, Nat.zero_add, Nat.add_zero, Nat.le_refl, Nat.succ_ne_self, Nat.zero_ne_one]
  exact RetK.pure (by simp only [rs32, ressS, resS, and_self]) (by simp only [rs32, retV, resV, Go.Bx.get, ↓reduceIte, eq_self, VLe_refl, Go.Bx.get, ↓reduceIte, eq_self])

theorem fbal_spec (d day : Int) : Ctr Try.prog 29 [.d (.int .i64 d), .own 5 0] [(5, .fix [.d (.int .i64 day)])] (.d (.bool (decide (d ≤ day)))) [(5, .fix [.d (.int .i64 day)])] [] := by
  refine own29 (by simp) rfl ?_
  intro c hP hfn
  simp only [c29, namesL, V.names, ownNames, vcC_seq, vcC_reg, vcC_ret, seqK_nrm, nrmK_app, initE, vcR_nil, vcR_n, isCall, makes, newOf, opR, binI, evS, evV, evX, Go.Bx.get, Go.Bx.own?, cut, nth, St.stp, Ef.stp, lgs, setE, applyU, newN, List.append_nil, List.nil_append, List.cons_append, List.length_cons, List.length_nil, Bool.false_eq_true, reduceCtorEq, ↓reduceIte, true_and, and_self, eq_self, Nat.reduceEqDiff, Nat.zero_add, Nat.le_refl, Nat.succ_ne_self, Nat.zero_ne_one]
  exact RetK.mk _ (Wk.refl _ _) (by simp only [rs29, ressS, resS, and_self]) (by simp only [rs29, retV, resV, Go.Bx.get, ↓reduceIte, eq_self, VLe_refl, Go.Bx.get, ↓reduceIte, eq_self]) (by simp only [OwnLe, OLe_refl, exists_eq_left', Option.some.injEq, Go.Bx.own?, ↓reduceIte, and_self, eq_self])

theorem fturn_spec (d : Int) (p : Int × Int) : Ctr Try.prog 31 [.d (.int .i64 d), .own 5 0] [(5, .fix [.d (.int .i64 p.1), .d (.int .i64 p.2)])] (.d (.bool (inR p d))) [(5, .fix [.d (.int .i64 p.1), .d (.int .i64 p.2)])] [] := by
  refine own31 (by simp) rfl ?_
  intro c hP hfn
  simp only [c31, namesL, V.names, ownNames, vcC_seq, vcC_reg, seqK_nrm, nrmK_app, initE, vcR_nil, vcR_n, isCall, makes, newOf, opR, evS, evV, evX, Go.Bx.get, Go.Bx.own?, cut, dropV, takeV, St.stp, Ef.stp, lgs, setE, applyU, newN, List.append_nil, List.nil_append, List.cons_append, List.length_cons, List.length_nil, Bool.false_eq_true, reduceCtorEq, ↓reduceIte, true_and, and_self, eq_self, Nat.reduceAdd, Nat.reduceEqDiff, Nat.zero_add, Nat.le_refl, Nat.zero_ne_one]
  refine TR.pure (hP ▸ in_spec p d) (by simp only [evS, evX, evSs, Go.Bx.get, ↓reduceIte, and_self, eq_self, Nat.succ_ne_self]) ?_
  simp only [vcC_ret, seqK_nrm, nrmK_app, vcR_nil, vcR_n, isCall, makes, newOf, opR, evS, evV, evX, Go.Bx.get, St.stp, Ef.stp, lgs, setE, applyU, newN, Bool.false_eq_true, ↓reduceIte, true_and, eq_self]
  exact RetK.mk _ (Wk.refl _ _) (by simp only [rs31, ressS, resS, and_self]) (by simp only [rs31, retV, resV, Go.Bx.get, ↓reduceIte, eq_self, VLe_refl, Go.Bx.get, ↓reduceIte, eq_self]) (by simp only [OwnLe, OLe_refl, exists_eq_left', Option.some.injEq, Go.Bx.own?, ↓reduceIte, and_self, eq_self])

/-- An account's amounts, of lines, of entries of some days. -/
def accL (acc : Int) : Int → List (Int × Int) → Int
  | n, [] => n
  | n, l :: r => accL acc (if (l.1 == acc) = true then IntKind.i64.wrap (n + l.2) else n) r
def addR (acc : Int) (pf : Int → Bool) : Int → List Ent → Int
  | n, [] => n
  | n, e :: r => addR acc pf (if pf e.day = true then accL acc n e.ls else n) r

theorem added_spec (g : Nat) (cs : List V) (pf : Int → Bool) (hn : namesL cs = []) (hg : ∀ d, Ctr Try.prog g [.d (.int .i64 d), .own 5 0] [(5, .fix cs)] (.d (.bool (pf d))) [(5, .fix cs)] [])
    (b : List Ent) (acc : Int) (hb : b.length ≤ 9223372036854775807) (hbl : ∀ e, e ∈ b → e.ls.length ≤ 9223372036854775807) :
    Ctr Try.prog 28 [vB b, .d (.int .i64 acc), .fn (.func g) [] [.own 5 0]] [(5, .fix cs)] (.d (.int .i64 (addR acc pf 0 b))) [(5, .fix cs)] [] := by
  refine own28 (by simp) (by simp [ctrB, keysO, nodupB, V.names, ownNames, hn]) ?_
  intro c hP hfn
  simp only [vB, namesL, V.names, ownNames, hn, List.append_nil, List.nil_append, List.cons_append] at hfn
  simp only [c28, vB, slB, namesL, V.names, ownNames, hn, vcC_seq, vcC_reg, vcC_block, seqK_nrm, nrmK_app, initE, vcR_nil, vcR_n, isCall, makes, newOf, opR, evS, evV, evX, Go.Bx.get, Go.Bx.own?, cellsV, isCell, cut, nth, St.stp, Ef.stp, lgs, setE, applyU, setO, newN, Option.getD_some, List.all_cons, List.all_nil, List.append_nil, List.nil_append, List.cons_append, List.length_cons, List.length_nil, List.mem_cons, List.not_mem_nil, Bool.and_self, Bool.false_eq_true, ↓reduceIte, true_and, and_self, or_false, not_false_eq_true, eq_self, Nat.reduceAdd, Nat.reduceEqDiff, Nat.zero_add, Nat.add_zero, Nat.le_refl]
  refine vcC.loop (X := Nat × Int) (fun x => ⟨[(1, .d (.int .i64 acc)), (2, .fn (.func g) [] [.own 5 0]), (7, .d (.int .i64 x.2)), (13, .d (slB b)), (14, .d (.int .i64 b.length)), (15, .d (.int .i64 x.1))],
     [(5, .fix cs)], [5]⟩)
    (fun x => x.1 ≤ b.length ∧ addR acc pf 0 b = addR acc pf x.2 (b.drop x.1)) (fun x => b.length - x.1) (0, 0) ⟨Nat.zero_le _, rfl⟩ (Wk.of [5, 5] hfn ?_ ?_ ?_) ?_
  · simp [wkB, nodupB, keysO, envNames, V.names, oNames, namesL, hn]
  · simp only [slB, EnvLe, VLe_refl, Go.Bx.get, reduceCtorEq, ↓reduceIte, and_self, eq_self, Nat.reduceEqDiff, Nat.succ_ne_self, Nat.zero_ne_one, Int.cast_ofNat_Int]
  · simp only [OwnLe, OLe_refl, exists_eq_left', Option.some.injEq, Go.Bx.own?, ↓reduceIte, and_self, eq_self]
  · rintro ⟨k, n⟩ ⟨hk, he⟩
    simp only at hk he
    simp only [slB, vcC_seq, vcC_reg, vcC_skip, vcC_cond, vcC_block, vcC_exit, vcC_ret, seqK_nrm, seqK_exit, blkK_exit, lopK_exit, nrmK_app, vcR_nil, vcR_n, isCall, makes, newOf, opR, binI, evS, evV, evX, Go.Bx.get, Go.Bx.own?, cellsV, isCell, cut, cutD, nth, dropD, takeDV, putV, St.stp, Ef.stp, lgs, setE, applyU, setO, newN, Option.getD_some, List.all_cons, List.all_nil, List.length_cons, List.length_nil, List.mem_cons, List.not_mem_nil, Bool.and_self, Bool.false_eq_true, ↓reduceIte, true_and, and_true, and_self, or_false, not_false_eq_true, eq_self, Nat.reduceAdd, Nat.reduceLeDiff, Nat.reduceEqDiff, Nat.zero_add, Nat.add_zero, Nat.le_refl, Nat.succ_ne_self, Int.toNat_natCast]
    refine ⟨fun h1 => ?_, fun h1 => ?_⟩
    · have hlt : k < b.length := by simpa using h1
      have hd : b.drop k = b[k] :: b.drop (k + 1) := List.drop_eq_getElem_cons hlt
      have hgd : b.getD k default = b[k] := by simp [hlt]
      have hll := hbl b[k] (List.getElem_mem hlt)
      have hw : IntKind.i64.wrap ((k : Int) + 1) = ((k + 1 : Nat) : Int) := (IntWalk.i64_in _ (by omega)).trans (by omega)
      rw [hgd]
      generalize b[k] = e at *
      refine ⟨by omega, ?_⟩
      refine TR.callv [(5, .fix cs)] [(5, .fix cs)] (.d (.bool (pf e.day))) [] rfl (hP ▸ hg e.day) (by simp only [evS, evX, Go.Bx.get, ↓reduceIte, eq_self, Nat.reduceEqDiff, Nat.succ_ne_self]) (by simp only [evS, evX, evSs, Go.Bx.get, ↓reduceIte, and_self, eq_self]) ?_ (by simp [keysO]) (by simp) ?_
      · intro k' o h
        simp only [List.mem_cons, List.not_mem_nil, or_false, Prod.mk.injEq] at h
        obtain ⟨rfl, rfl⟩ := h
        simp only [Go.Bx.own?, ↓reduceIte, eq_self]
      simp only [slL, vcC_seq, vcC_reg, vcC_skip, vcC_cond, vcC_block, vcC_exit, seqK_nrm, seqK_exit, blkK_exit, nrmK_app, vcR_nil, vcR_n, isCall, makes, newOf, opR, binI, evS, evV, evX, Go.Bx.get, Go.Bx.own?, cut, nth, St.stp, Ef.stp, lgs, setE, applyU, setO, delO, newN, callU, List.map_cons, List.map_nil, List.nil_append, List.cons_append, List.length_cons, List.length_nil, List.mem_cons, List.not_mem_nil, Bool.false_eq_true, ↓reduceIte, true_and, and_self, or_false, eq_self, Nat.reduceAdd, Nat.reduceEqDiff, Nat.zero_add, Nat.le_refl, Nat.succ_ne_self, or_true]
      refine ⟨fun h2 => ?_, fun h2 => ?_⟩
      · have h2 : pf e.day = false := by simpa using h2
        refine lopK.on (k + 1, n) ⟨hlt, ?_⟩ (by simp only; omega) (Wk.of [5, 5] hfn (by simp [wkB, nodupB, keysO, envNames, V.names, oNames, namesL, hn]) ?_ ?_)
        · rw [he, hd, addR, if_neg (by simp [h2])]
        · simp only [EnvLe, VLe_refl, VLe_int, Go.Bx.get, ↓reduceIte, true_and, and_true, eq_self, Nat.reduceEqDiff, Nat.succ_ne_self]; exact hw
        · simp only [OwnLe, OLe_refl, exists_eq_left', Option.some.injEq, Go.Bx.own?, ↓reduceIte, and_self, eq_self, Nat.reduceEqDiff]
      · have h2 : pf e.day = true := by simpa using h2
        refine vcC.loop (X := Nat × Int) (fun x => ⟨[(1, .d (.int .i64 acc)), (2, .fn (.func g) [] [.own 5 0]), (7, .d (.int .i64 x.2)), (13, .d (slB b)), (14, .d (.int .i64 b.length)), (15, .d (.int .i64 k)), (25, .d (slL e.ls)), (26, .d (.int .i64 e.ls.length)), (27, .d (.int .i64 x.1))],
            [(5, .fix cs)], [5]⟩)
          (fun x => x.1 ≤ e.ls.length ∧ accL acc n e.ls = accL acc x.2 (e.ls.drop x.1)) (fun x => e.ls.length - x.1) (0, n) ⟨Nat.zero_le _, rfl⟩ (Wk.of [5, 5] hfn (by simp [wkB, nodupB, keysO, envNames, V.names, oNames, namesL, hn]) ?_ ?_) ?_
        · simp only [slB, slL, EnvLe, VLe_refl, Go.Bx.get, ↓reduceIte, and_self, eq_self, Nat.reduceEqDiff, Nat.succ_ne_self, Int.cast_ofNat_Int]
        · simp only [OwnLe, OLe_refl, exists_eq_left', Option.some.injEq, Go.Bx.own?, ↓reduceIte, and_self, eq_self, Nat.reduceEqDiff]
        · rintro ⟨j, m⟩ ⟨hj, hm⟩
          simp only at hj hm
          simp only [slL, slB, vcC_seq, vcC_reg, vcC_skip, vcC_cond, vcC_block, vcC_exit, seqK_nrm, seqK_exit, blkK_nrm, blkK_exit, lopK_exit, nrmK_app, vcR_nil, vcR_n, isCall, makes, newOf, opR, binI, evS, evV, evX, Go.Bx.get, Go.Bx.own?, cellsV, isCell, cut, cutD, nth, dropD, takeDV, putV, St.stp, Ef.stp, lgs, setE, applyU, setO, newN, Option.getD_some, List.all_cons, List.all_nil, List.length_cons, List.length_nil, List.mem_cons, List.not_mem_nil, Bool.and_self, Bool.false_eq_true, ↓reduceIte, true_and, and_true, and_self, or_false, not_false_eq_true, eq_self, Nat.reduceAdd, Nat.reduceLeDiff, Nat.reduceEqDiff, Nat.zero_add, Nat.add_zero, Nat.le_refl, Nat.succ_ne_self, Int.toNat_natCast]
          refine ⟨fun h3 => ?_, fun h3 => ?_⟩
          · have hlj : j < e.ls.length := by simpa using h3
            have hdj : e.ls.drop j = e.ls[j] :: e.ls.drop (j + 1) := List.drop_eq_getElem_cons hlj
            have hgj : e.ls.getD j (0, 0) = e.ls[j] := by simp [hlj]
            have hwj : IntKind.i64.wrap ((j : Int) + 1) = ((j + 1 : Nat) : Int) := (IntWalk.i64_in _ (by omega)).trans (by omega)
            rw [hgj]
            refine ⟨by omega, fun h4 => ?_, fun h4 => ?_⟩
            · refine lopK.on (j + 1, IntKind.i64.wrap (m + e.ls[j].2)) ⟨hlj, ?_⟩ (by simp only; omega) (Wk.of [5, 5] hfn (by simp [wkB, nodupB, keysO, envNames, V.names, oNames, namesL, hn]) ?_ ?_)
              · rw [hm, hdj, accL, if_pos h4]
              · simp only [EnvLe, VLe_refl, VLe_int, Go.Bx.get, ↓reduceIte, true_and, and_true, eq_self, Nat.reduceEqDiff, Nat.succ_ne_self]; exact hwj
              · simp only [OwnLe, OLe_refl, exists_eq_left', Option.some.injEq, Go.Bx.own?, ↓reduceIte, and_self, eq_self]
            · refine lopK.on (j + 1, m) ⟨hlj, ?_⟩ (by simp only; omega) (Wk.of [5, 5] hfn (by simp [wkB, nodupB, keysO, envNames, V.names, oNames, namesL, hn]) ?_ ?_)
              · rw [hm, hdj, accL, if_neg (by rw [h4]; simp)]
              · simp only [EnvLe, VLe_refl, VLe_int, Go.Bx.get, ↓reduceIte, true_and, and_true, eq_self, Nat.reduceEqDiff, Nat.succ_ne_self]; exact hwj
              · simp only [OwnLe, OLe_refl, exists_eq_left', Option.some.injEq, Go.Bx.own?, ↓reduceIte, and_self, eq_self]
          · have hjl : j = e.ls.length := by simp at h3; omega
            refine lopK.on (k + 1, m) ⟨hlt, ?_⟩ (by simp only; omega) (Wk.of [5, 5] hfn (by simp [wkB, nodupB, keysO, envNames, V.names, oNames, namesL, hn]) ?_ ?_)
            · rw [he, hd, addR, if_pos h2, hm, hjl]
              simp [accL]
            · simp only [EnvLe, VLe_refl, VLe_int, Go.Bx.get, ↓reduceIte, true_and, and_true, eq_self, Nat.reduceEqDiff, Nat.succ_ne_self]; exact hw
            · simp only [OwnLe, OLe_refl, exists_eq_left', Option.some.injEq, Go.Bx.own?, ↓reduceIte, and_self, eq_self]
    · have hkl : k = b.length := by simp at h1; omega
      have : addR acc pf 0 b = n := by rw [he, hkl]; simp [addR]
      exact RetK.mk _ (Wk.refl _ _) (by simp only [rs28, ressS, resS, and_self]) (by simp only [rs28, retV, resV, Go.Bx.get, ↓reduceIte, eq_self, VLe_refl, Go.Bx.get, ↓reduceIte, eq_self, this]) (by simp only [OwnLe, OLe_refl, exists_eq_left', Option.some.injEq, Go.Bx.own?, ↓reduceIte, and_self, eq_self])

theorem balance_spec (b : List Ent) (acc day : Int) (hb : b.length ≤ 9223372036854775807) (hbl : ∀ e, e ∈ b → e.ls.length ≤ 9223372036854775807) :
    Ctr Try.prog 14 [vB b, .d (.int .i64 acc), .d (.int .i64 day)] [] (.d (.int .i64 (addR acc (fun d => decide (d ≤ day)) 0 b))) [] [] := by
  refine pure14 (by simp) rfl rfl ?_
  intro c hP hfn
  simp only [c14, vB, vcC_seq, vcC_reg, seqK_nrm, nrmK_app, initE, vcR_nil, vcR_n, isCall, makes, newOf, opR, evS, evV, evX, evSs, evVs, Go.Bx.get, Go.Bx.own?, cellsV, isCell, cut, dropV, takeV, St.stp, Ef.stp, lgs, setE, applyU, setO, newN, Option.getD_some, List.all_cons, List.all_nil, List.length_cons, List.length_nil, List.mem_cons, List.not_mem_nil, Bool.and_self, Bool.false_eq_true, reduceCtorEq, ↓reduceIte, true_and, and_self, or_false, not_false_eq_true, eq_self, Nat.reduceAdd, Nat.reduceEqDiff, Nat.zero_add, Nat.le_refl, Nat.succ_ne_self, Nat.zero_ne_one]
  refine TR.call [(5, .fix [.d (.int .i64 day)])] [(5, .fix [.d (.int .i64 day)])] _ [] (hP ▸ added_spec 29 [.d (.int .i64 day)] (fun d => decide (d ≤ day)) rfl (fun d => fbal_spec d day) b acc hb hbl) (by simp only [evS, evX, evSs, Go.Bx.get, ↓reduceIte, and_self, eq_self, Nat.reduceEqDiff, Nat.succ_ne_self]) ?_ (by simp [keysO]) (by simp) ?_
  · intro k' o h
    simp only [List.mem_cons, List.not_mem_nil, or_false, Prod.mk.injEq] at h
    obtain ⟨rfl, rfl⟩ := h
    simp only [Go.Bx.own?, ↓reduceIte, eq_self, Nat.reduceEqDiff]
  simp only [vcC_ret, seqK_nrm, nrmK_app, vcR_nil, vcR_n, isCall, makes, newOf, opR, evS, evV, evX, Go.Bx.get, St.stp, Ef.stp, lgs, setE, applyU, setO, delO, newN, callU, List.map_cons, List.map_nil, List.nil_append, List.cons_append, List.mem_cons, List.not_mem_nil, Bool.false_eq_true, ↓reduceIte, true_and, or_false, eq_self, Nat.reduceEqDiff]
  exact RetK.pure (by simp only [rs14, ressS, resS, and_self]) (by simp only [rs14, retV, resV, Go.Bx.get, ↓reduceIte, eq_self, VLe_refl, Go.Bx.get, ↓reduceIte, eq_self])

theorem turn_spec (b : List Ent) (acc : Int) (p : Int × Int) (hb : b.length ≤ 9223372036854775807) (hbl : ∀ e, e ∈ b → e.ls.length ≤ 9223372036854775807) :
    Ctr Try.prog 16 [vB b, .d (.int .i64 acc), vS p] [] (.d (.int .i64 (addR acc (fun d => inR p d) 0 b))) [] [] := by
  refine pure16 (by simp) rfl rfl ?_
  intro c hP hfn
  simp only [c16, vB, vS, vcC_seq, vcC_reg, seqK_nrm, nrmK_app, initE, vcR_nil, vcR_n, isCall, makes, newOf, opR, evS, evV, evX, evSs, evVs, Go.Bx.get, Go.Bx.own?, cellsV, isCell, cut, dropV, takeV, St.stp, Ef.stp, lgs, setE, applyU, setO, newN, Option.getD_some, List.all_cons, List.all_nil, List.length_cons, List.length_nil, List.mem_cons, List.not_mem_nil, Bool.and_self, Bool.false_eq_true, reduceCtorEq, ↓reduceIte, true_and, and_self, or_false, not_false_eq_true, eq_self, Nat.reduceAdd, Nat.reduceEqDiff, Nat.zero_add, Nat.le_refl, Nat.succ_ne_self, Nat.zero_ne_one]
  refine TR.call [(5, .fix [.d (.int .i64 p.1), .d (.int .i64 p.2)])] [(5, .fix [.d (.int .i64 p.1), .d (.int .i64 p.2)])] _ [] (hP ▸ added_spec 31 [.d (.int .i64 p.1), .d (.int .i64 p.2)] (fun d => inR p d) rfl (fun d => fturn_spec d p) b acc hb hbl) (by simp only [evS, evX, evSs, Go.Bx.get, ↓reduceIte, and_self, eq_self, Nat.reduceEqDiff, Nat.succ_ne_self]) ?_ (by simp [keysO]) (by simp) ?_
  · intro k' o h
    simp only [List.mem_cons, List.not_mem_nil, or_false, Prod.mk.injEq] at h
    obtain ⟨rfl, rfl⟩ := h
    simp only [Go.Bx.own?, ↓reduceIte, eq_self, Nat.reduceEqDiff]
  simp only [vcC_ret, seqK_nrm, nrmK_app, vcR_nil, vcR_n, isCall, makes, newOf, opR, evS, evV, evX, Go.Bx.get, St.stp, Ef.stp, lgs, setE, applyU, setO, delO, newN, callU, List.map_cons, List.map_nil, List.nil_append, List.cons_append, List.mem_cons, List.not_mem_nil, Bool.false_eq_true, ↓reduceIte, true_and, or_false, eq_self, Nat.reduceEqDiff]
  exact RetK.pure (by simp only [rs16, ressS, resS, and_self]) (by simp only [rs16, retV, resV, Go.Bx.get, ↓reduceIte, eq_self, VLe_refl, Go.Bx.get, ↓reduceIte, eq_self])

/-- Ten numbers. -/
def arr10 (g : Nat → Int) : List V := [.d (.int .i64 (g 0)), .d (.int .i64 (g 1)), .d (.int .i64 (g 2)), .d (.int .i64 (g 3)), .d (.int .i64 (g 4)), .d (.int .i64 (g 5)), .d (.int .i64 (g 6)), .d (.int .i64 (g 7)), .d (.int .i64 (g 8)), .d (.int .i64 (g 9))]
def updF (g : Nat → Int) (i : Nat) (v : Int) : Nat → Int := fun j => if j = i then v else g j
theorem arr10_put (g : Nat → Int) (i : Nat) (v : Int) (h : i < 10) : putV (arr10 g) i [.d (.int .i64 v)] = arr10 (updF g i v) := by
  have : i = 0 ∨ i = 1 ∨ i = 2 ∨ i = 3 ∨ i = 4 ∨ i = 5 ∨ i = 6 ∨ i = 7 ∨ i = 8 ∨ i = 9 := by omega
  rcases this with rfl | rfl | rfl | rfl | rfl | rfl | rfl | rfl | rfl | rfl <;> simp [arr10, putV, updF]
theorem arr10_congr {g g' : Nat → Int} (h : ∀ i, i < 10 → g i = g' i) : arr10 g = arr10 g' := by
  simp only [arr10, h 0 (by omega), h 1 (by omega), h 2 (by omega), h 3 (by omega), h 4 (by omega), h 5 (by omega), h 6 (by omega), h 7 (by omega), h 8 (by omega), h 9 (by omega)]
theorem arr10_len (g : Nat → Int) : (arr10 g).length = 10 := rfl

def trialR (b : List Ent) (day : Int) : Nat → Int := fun i => if i = 0 then 0 else addR i (fun d => decide (d ≤ day)) 0 b

theorem trial_spec (b : List Ent) (day : Int) (hb : b.length ≤ 9223372036854775807) (hbl : ∀ e, e ∈ b → e.ls.length ≤ 9223372036854775807) :
    Ctr Try.prog 18 [vB b, .d (.int .i64 day)] [] (.ag (arr10 (trialR b day))) [] [] := by
  refine pure18 (by simp) rfl rfl ?_
  intro c hP hfn
  simp only [c18, vB, vcC_seq, vcC_reg, vcC_block, seqK_nrm, nrmK_app, initE, vcR_nil, vcR_n, isCall, makes, newOf, opR, evS, evV, evX, Go.Bx.get, cellsV, isCell, St.stp, Ef.stp, lgs, setE, applyU, setO, newN, Option.getD_some, List.all_cons, List.all_nil, List.mem_cons, List.not_mem_nil, Bool.and_self, Bool.false_eq_true, ↓reduceIte, true_and, and_self, or_false, not_false_eq_true, eq_self, Nat.reduceEqDiff, Nat.zero_add, Nat.succ_ne_self]
  refine vcC.loop (X := Nat) (fun k => ⟨[(1, .d (.int .i64 day)), (2, .own 2 0), (4, .own 4 0), (5, .own 5 0), (7, .d (.int .i64 k))],
     [(2, .fix [.d (slB b)]), (4, .fix (arr10 (fun _ => 0))), (5, .fix (arr10 (fun j => if j ≤ k then trialR b day j else 0)))], [2, 4, 5]⟩)
    (fun k => k ≤ 9) (fun k => 9 - k) 0 (Nat.zero_le _) (Wk.of [] hfn rfl ?_ ?_) ?_
  · simp only [EnvLe, VLe_refl, Go.Bx.get, ↓reduceIte, and_self, eq_self, Nat.reduceEqDiff, Nat.succ_ne_self, Nat.zero_ne_one, Int.cast_ofNat_Int]
  · simp only [arr10, trialR, OwnLe, OLe_refl, exists_eq_left', Option.some.injEq, Go.Bx.own?, ↓reduceIte, and_self, eq_self, Nat.reduceLeDiff, Nat.reduceEqDiff, Nat.le_refl]
  · rintro k hk
    simp only [arr10_len, vcC_seq, vcC_reg, vcC_skip, vcC_cond, vcC_block, vcC_exit, vcC_ret, seqK_nrm, seqK_exit, blkK_exit, lopK_exit, nrmK_app, vcR_nil, vcR_n, isCall, makes, newOf, opR, binI, evS, evV, evX, Go.Bx.get, Go.Bx.own?, cellsV, cut, dropV, takeV, St.stp, Ef.stp, lgs, setE, applyU, newN, Ef.bad, List.length_cons, List.length_nil, Bool.false_eq_true, ↓reduceIte, true_and, and_self, eq_self, Nat.reduceEqDiff, Nat.zero_add, Nat.le_refl, Nat.succ_ne_self]
    refine ⟨fun h1 => ?_, fun h1 => ?_⟩
    · have hlt : k < 9 := by have := of_decide_eq_true h1; omega
      have hw : IntKind.i64.wrap ((k : Int) + 1) = ((k + 1 : Nat) : Int) := (IntWalk.i64_in _ (by omega)).trans (by omega)
      rw [hw]
      refine TR.pure (hP ▸ balance_spec b _ day hb hbl) (by simp only [evS, evX, evSs, Go.Bx.get, ↓reduceIte, and_self, eq_self, Nat.reduceEqDiff, Nat.succ_ne_self]) ?_
      simp only [arr10_len, vcC_reg, seqK_nrm, blkK_nrm, nrmK_app, vcR_nil, vcR_n, isCall, makes, newOf, opR, binI, evS, evV, evX, Go.Bx.get, Go.Bx.own?, cellsV, St.stp, Ef.stp, lgs, setE, applyU, setO, newN, List.length_cons, List.length_nil, List.mem_cons, List.not_mem_nil, Bool.false_eq_true, ↓reduceIte, true_and, and_self, or_false, eq_self, Nat.reduceLeDiff, Nat.reduceEqDiff, Nat.zero_add, Nat.succ_ne_self, Int.toNat_natCast, or_true, Int.cast_ofNat_Int, Nat.mul_one]
      refine ⟨by omega, by omega, ?_⟩
      rw [arr10_put _ _ _ (by omega), hw]
      refine lopK.on (k + 1) hlt (by omega) (Wk.of [] hfn rfl ?_ ?_)
      · simp only [EnvLe, VLe_refl, Go.Bx.get, ↓reduceIte, and_self, eq_self, Nat.reduceEqDiff, Nat.succ_ne_self]
      · simp only [OwnLe, OLe_refl, exists_eq_left', Option.some.injEq, Go.Bx.own?, ↓reduceIte, true_and, and_true, eq_self, Nat.reduceEqDiff]
        refine OLe.eq (congrArg Own.fix (arr10_congr fun i hi => ?_))
        simp only [updF]
        by_cases h5 : i = k + 1
        · subst h5
          rw [if_pos rfl, if_pos (Nat.le_refl _), trialR, if_neg (by omega)]
        · rw [if_neg h5]
          by_cases h6 : i ≤ k
          · rw [if_pos h6, if_pos (by omega)]
          · rw [if_neg h6, if_neg (by omega)]
    · have hk9 : k = 9 := by have := of_decide_eq_false h1; omega
      subst hk9
      have e9 : (arr10 fun j => if j ≤ 9 then trialR b day j else 0) = arr10 (trialR b day) := arr10_congr fun i hi => if_pos (by omega)
      rw [e9]
      simp only [arr10, isCell, takeV, putV, applyU, setO, newN, List.all_cons, List.all_nil, List.length_cons, List.length_nil, List.mem_cons, List.not_mem_nil, Bool.and_self, ↓reduceIte, true_and, and_self, or_false, eq_self, Nat.reduceAdd, Nat.reduceEqDiff, Nat.zero_add, Nat.le_refl, decide_false, or_true, Int.cast_ofNat_Int, Int.reduceLT]
      exact RetK.pure (by simp only [rs18, ressS, resS, Go.Bx.get, Go.Bx.own?, List.length_cons, List.length_nil, ↓reduceIte, and_self, eq_self, Nat.reduceAdd, Nat.reduceEqDiff, Nat.zero_add, Nat.le_refl]) (by simp only [rs18, retV, resV, Go.Bx.get, Go.Bx.own?, cut, dropV, takeV, ↓reduceIte, eq_self, Nat.reduceEqDiff, VLe_refl, Go.Bx.get, Go.Bx.own?, cut, dropV, takeV, ↓reduceIte, eq_self, Nat.reduceEqDiff])

theorem two_spec (day a b amt : Int) (hw : IntKind.i64.wrap (0 - amt) = -amt) : Ctr Try.prog 24 [.d (.int .i64 day), .d (.int .i64 a), .d (.int .i64 b), .d (.int .i64 amt)] [] (vE ⟨day, 0, [(a, amt), (b, -amt)]⟩) [] [] := by
  refine pure24 (by simp) rfl rfl ?_
  intro c hP hfn
  simp only [c24, vcC_seq, vcC_reg, vcC_ret, seqK_nrm, nrmK_app, initE, vcR_nil, vcR_n, isCall, makes, newOf, opR, evS, evV, evX, evSs, evVs, evParts, evPartsS, fillV, catV, Go.Bx.get, Go.Bx.own?, cellsV, isCell, putV, toDs, St.stp, Ef.stp, lgs, setE, applyU, setO, newN, Option.getD_some, Option.map_some, List.all_cons, List.all_nil, List.append_nil, List.nil_append, List.cons_append, List.length_cons, List.length_nil, List.mem_cons, List.not_mem_nil, Bool.and_self, Bool.false_eq_true, reduceCtorEq, ↓reduceIte, true_and, and_self, or_false, not_false_eq_true, eq_self, Nat.reduceAdd, Nat.reduceLeDiff, Nat.reduceEqDiff, Nat.zero_add, Nat.le_refl, Nat.succ_ne_self, Nat.zero_ne_one, decide_true]
  refine RetK.pure (by simp only [rs24, ressS, resS, Go.Bx.get, Go.Bx.own?, List.length_cons, List.length_nil, ↓reduceIte, and_self, eq_self, Nat.reduceAdd, Nat.reduceEqDiff, Nat.zero_add, Nat.le_refl, Nat.succ_ne_self]) ?_
  simp only [rs24, retV, resV, Go.Bx.get, Go.Bx.own?, cut, dropV, takeV, ↓reduceIte, eq_self, Nat.reduceEqDiff, Nat.succ_ne_self, hw]
  refine VLe.ags ⟨VLe.refl _, VLe.refl _, ?_, trivial⟩
  refine VLe.sl rfl (fun _ => rfl) (by simp) fun i hi => ?_
  have : i = 0 ∨ i = 1 := by omega
  rcases this with rfl | rfl <;> rfl

theorem put_spec' (b : List Ent) (e : Ent) (r : List Ent × Int) (x y : V) (hl : e.ls.length ≤ 9223372036854775807) (hx : VLe x (vB b)) (hy : VLe y (vE e)) (hr : putR b e = r) : Ctr Try.prog 21 [x, y] [] (.tup [vB r.1, .d (.int .i64 r.2)]) [] [] :=
  hr ▸ (put_spec b e hl).arg ⟨hx, hy, trivial⟩

theorem lit2 (a b c d : Int) : VLe (.d (.sl true 2 2 (litRow 2 [.int .i64 a, .int .i64 b, .int .i64 c, .int .i64 d]))) (.d (slL [(a, b), (c, d)])) := by
  refine VLe.sl rfl (fun _ => rfl) (by simp) fun i hi => ?_
  have : i = 0 ∨ i = 1 := by omega
  rcases this with rfl | rfl <;> rfl
theorem nilL : VLe (.d (.sl true 0 0 fun _ => [])) (.d (slL [])) :=
  VLe.sl rfl (by intro h; exact absurd h (Nat.lt_irrefl 0)) (by simp) (by intro i hi; exact absurd hi (Nat.not_lt_zero i))

def bk2 : List Ent := [⟨3, 0, [(1, 5), (2, -5)]⟩, ⟨7, 0, [(1, -2), (5, 2)]⟩]
theorem balance_spec' (b : List Ent) (acc day r : Int) (x : V) (hx : VLe x (vB b)) (hb : b.length ≤ 9223372036854775807) (hbl : ∀ e, e ∈ b → e.ls.length ≤ 9223372036854775807) (hr : addR acc (fun d => decide (d ≤ day)) 0 b = r) :
    Ctr Try.prog 14 [x, .d (.int .i64 acc), .d (.int .i64 day)] [] (.d (.int .i64 r)) [] [] := hr ▸ (balance_spec b acc day hb hbl).arg ⟨hx, VLe.refl _, VLe.refl _, trivial⟩
theorem turn_spec' (b : List Ent) (acc : Int) (p : Int × Int) (r : Int) (x y : V) (hx : VLe x (vB b)) (hy : VLe y (vS p)) (hb : b.length ≤ 9223372036854775807) (hbl : ∀ e, e ∈ b → e.ls.length ≤ 9223372036854775807) (hr : addR acc (fun d => inR p d) 0 b = r) :
    Ctr Try.prog 16 [x, .d (.int .i64 acc), y] [] (.d (.int .i64 r)) [] [] := hr ▸ (turn_spec b acc p hb hbl).arg ⟨hx, VLe.refl _, hy, trivial⟩
theorem trial_spec' (b : List Ent) (day : Int) (x : V) (hx : VLe x (vB b)) (hb : b.length ≤ 9223372036854775807) (hbl : ∀ e, e ∈ b → e.ls.length ≤ 9223372036854775807) :
    Ctr Try.prog 18 [x, .d (.int .i64 day)] [] (.ag (arr10 (trialR b day))) [] [] := (trial_spec b day hb hbl).arg ⟨hx, VLe.refl _, trivial⟩

theorem alive_spec : Ctr Try.prog 10 [] [] (.d (.bool true)) [] [] := by
  refine pure10 (by simp) rfl rfl ?_
  intro c hP hfn
  simp only [c10, vcC_seq, vcC_reg, seqK_nrm, nrmK_app, initE, vcR_nil, vcR_n, isCall, makes, newOf, opR, evS, evV, evX, evParts, evPartsS, fillV, St.stp, Ef.stp, lgs, setE, applyU, newN, Bool.false_eq_true, ↓reduceIte, true_and, eq_self]
  refine TR.pure (hP ▸ two_spec 3 1 2 5 rfl) (by simp only [evS, evX, evSs, and_self]) ?_
  simp only [vcR_n, isCall, St.stp, lgs, setE, applyU, newN, Bool.false_eq_true, ↓reduceIte, eq_self]
  refine TR.pure (hP ▸ put_spec' [] ⟨3, 0, [(1, 5), (2, -5)]⟩ ([⟨3, 0, [(1, 5), (2, -5)]⟩], 0) _ _ (by simp) ?hx ?hy rfl) (by simp only [vE, evS, evX, evSs, Go.Bx.get, ↓reduceIte, and_self, eq_self, Nat.succ_ne_self]) ?_
  case hx => exact VLe.ags (xs := [_]) ⟨nilB, trivial⟩
  case hy => exact VLe.refl _
  simp only [vB, vcC_seq, vcC_drw, seqK_nrm, nrmK_app, vcR_nil, vcR_n, isCall, makes, newOf, opR, evS, evV, evX, Go.Bx.get, Go.Bx.own?, cellsV, isCell, cut, nth, dropV, takeV, putV, St.stp, Ef.stp, Stp.lg, lgs, setE, applyU, setO, newN, Option.getD_some, List.all_cons, List.all_nil, List.map_nil, List.append_nil, List.nil_append, List.length_cons, List.length_nil, List.mem_cons, List.not_mem_nil, Bool.and_self, Bool.false_eq_true, ↓reduceIte, true_and, and_self, or_false, not_false_eq_true, eq_self, Nat.reduceAdd, Nat.reduceEqDiff, Nat.zero_add, Nat.le_refl, Nat.succ_ne_self, Nat.reduceLT]
  refine TR.pure (hP ▸ two_spec 7 1 5 (-2) rfl) (by simp only [evS, evX, evSs, and_self]) ?_
  simp only [vcR_n, isCall, St.stp, lgs, setE, applyU, newN, List.nil_append, List.cons_append, ↓reduceIte, eq_self]
  refine TR.pure (hP ▸ put_spec' [⟨3, 0, [(1, 5), (2, -5)]⟩] ⟨7, 0, [(1, -2), (5, 2)]⟩ ([⟨3, 0, [(1, 5), (2, -5)]⟩, ⟨7, 0, [(1, -2), (5, 2)]⟩], 0) _ _ (by simp) ?hx ?hy rfl) (by simp only [vE, evS, evX, evSs, Go.Bx.get, ↓reduceIte, and_self, eq_self, Nat.succ_ne_self]) ?_
  case hx => exact VLe.refl _
  case hy => exact VLe.refl _
  simp only [vB, vcC_seq, vcC_drw, seqK_nrm, drwK_app, vcR_nil, vcR_n, isCall, makes, newOf, opR, evS, evV, evX, Go.Bx.get, Go.Bx.own?, cellsV, isCell, cut, nth, dropV, takeV, putV, St.stp, Ef.stp, Stp.lg, lgs, setE, applyU, setO, newN, List.all_cons, List.all_nil, List.map_cons, List.map_nil, List.append_nil, List.nil_append, List.cons_append, List.length_cons, List.length_nil, List.mem_cons, List.not_mem_nil, Bool.and_self, Bool.false_eq_true, ↓reduceIte, true_and, and_self, or_false, eq_self, Nat.reduceAdd, Nat.reduceEqDiff, Nat.zero_add, Nat.le_refl, Nat.succ_ne_self, Nat.reduceLT]
  refine ⟨rfl, ?_⟩
  refine TR.pure (hP ▸ two_spec 6 1 2 5 rfl) (by simp only [evS, evX, evSs, and_self]) ?_
  simp only [vcR_n, isCall, St.stp, lgs, setE, applyU, newN, List.nil_append, List.cons_append, ↓reduceIte, eq_self]
  refine TR.pure (hP ▸ put_spec' [⟨3, 0, [(1, 5), (2, -5)]⟩, ⟨7, 0, [(1, -2), (5, 2)]⟩] ⟨6, 0, [(1, 5), (2, -5)]⟩ ([], 4) _ _ (by simp) ?hx ?hy rfl) (by simp only [vE, evS, evX, evSs, Go.Bx.get, ↓reduceIte, and_self, eq_self, Nat.succ_ne_self]) ?_
  case hx => exact VLe.refl _
  case hy => exact VLe.refl _
  simp only [vB, vcC_seq, vcC_reg, seqK_nrm, drwK_app, vcR_nil, vcR_n, isCall, makes, newOf, opR, evS, evV, evX, evParts, evPartsS, fillV, Go.Bx.get, Go.Bx.own?, cellsV, isCell, cut, nth, dropV, takeV, putV, St.stp, Ef.stp, Stp.lg, lgs, setE, applyU, setO, newN, Option.getD_some, List.all_cons, List.all_nil, List.map_cons, List.map_nil, List.append_nil, List.nil_append, List.cons_append, List.length_cons, List.length_nil, List.mem_cons, List.not_mem_nil, Bool.and_self, Bool.false_eq_true, ↓reduceIte, true_and, and_self, or_false, not_false_eq_true, eq_self, Nat.reduceAdd, Nat.reduceLeDiff, Nat.reduceEqDiff, Nat.zero_add, Nat.le_refl, Nat.succ_ne_self, Nat.reduceLT, decide_true]
  refine ⟨rfl, ?_⟩
  refine TR.pure (hP ▸ put_spec' [⟨3, 0, [(1, 5), (2, -5)]⟩, ⟨7, 0, [(1, -2), (5, 2)]⟩] ⟨9, 0, []⟩ ([], 1) _ _ (by simp) ?hx ?hy rfl) (by simp only [evS, evX, evSs, Go.Bx.get, ↓reduceIte, and_self, eq_self, Nat.succ_ne_self]) ?_
  case hx => exact VLe.refl _
  case hy => exact VLe.ags (xs := [_, _, _]) ⟨VLe.refl _, VLe.refl _, nilL, trivial⟩
  simp only [vB, vcC_seq, vcC_reg, seqK_nrm, nrmK_app, vcR_nil, vcR_n, isCall, makes, newOf, opR, evS, evV, evX, evSs, evVs, evParts, evPartsS, fillV, catV, Go.Bx.get, Go.Bx.own?, cellsV, isCell, cut, nth, dropV, takeV, putV, toDs, St.stp, Ef.stp, lgs, setE, applyU, setO, newN, Option.getD_some, Option.map_some, List.all_cons, List.all_nil, List.append_nil, List.nil_append, List.cons_append, List.length_cons, List.length_nil, List.mem_cons, List.not_mem_nil, Bool.and_self, Bool.false_eq_true, ↓reduceIte, true_and, and_self, or_false, not_false_eq_true, eq_self, Nat.reduceAdd, Nat.reduceLeDiff, Nat.reduceEqDiff, Nat.zero_add, Nat.le_refl, Nat.succ_ne_self, Nat.reduceLT, decide_true]
  refine TR.pure (hP ▸ put_spec' [⟨3, 0, [(1, 5), (2, -5)]⟩, ⟨7, 0, [(1, -2), (5, 2)]⟩] ⟨9, 0, [(1, 1), (2, 1)]⟩ ([], 13) _ _ (by simp) ?hx ?hy rfl) (by simp only [evS, evX, evSs, Go.Bx.get, ↓reduceIte, and_self, eq_self, Nat.reduceEqDiff, Nat.succ_ne_self]) ?_
  case hx => exact VLe.refl _
  case hy => exact VLe.ags (xs := [_, _, _]) ⟨VLe.refl _, VLe.refl _, lit2 _ _ _ _, trivial⟩
  simp only [vB, slB, beq_self_eq_true, show ((2 : Nat) : Int) = 2 from rfl, vcC_seq, vcC_reg, seqK_nrm, nrmK_app, vcR_nil, vcR_n, vcR_s, isCall, makes, isStore, newOf, opR, binI, pickV, evS, evV, evX, gOf, Go.Bx.get, Go.Bx.own?, cellsV, isCell, cut, nth, dropV, takeV, putV, St.stp, Ef.stp, lgs, setE, applyU, setO, newN, Option.getD_some, List.all_cons, List.all_nil, List.length_cons, List.length_nil, List.mem_cons, List.not_mem_nil, Bool.and_self, Bool.or_self, Bool.false_eq_true, cond_true, ↓reduceIte, true_and, and_self, or_false, not_false_eq_true, forall_const, eq_self, Nat.reduceAdd, Nat.reduceEqDiff, Nat.zero_add, Nat.add_zero, Nat.le_refl, Nat.succ_ne_self, Nat.reduceLT, beq_self_eq_true]
  refine TR.gpure (gc := true) rfl (fun _ => hP ▸ balance_spec' bk2 1 6 5 _ ?hx (by decide) ?hb rfl) (fun _ => by simp only [evS, evX, evSs, Go.Bx.get, ↓reduceIte, and_self, forall_const, eq_self]) ?_
  case hx => exact VLe.refl _
  case hb => intro e he; simp only [bk2, List.mem_cons, List.not_mem_nil, or_false] at he; rcases he with rfl | rfl <;> decide
  simp only [beq_self_eq_true, vcR_n, vcR_s, isCall, makes, isStore, newOf, opR, binI, pickV, evS, evV, evX, gOf, Go.Bx.get, Go.Bx.own?, cut, dropV, takeV, St.stp, Ef.stp, lgs, setE, applyU, newN, List.length_cons, List.length_nil, Bool.and_self, Bool.or_self, Bool.false_eq_true, cond_true, ↓reduceIte, true_and, and_self, forall_const, eq_self, Nat.reduceEqDiff, Nat.zero_add, Nat.le_refl, Nat.succ_ne_self, beq_self_eq_true]
  refine TR.gpure (gc := true) rfl (fun _ => hP ▸ balance_spec' bk2 1 7 3 _ ?hx (by decide) ?hb rfl) (fun _ => by simp only [evS, evX, evSs, Go.Bx.get, ↓reduceIte, and_self, forall_const, eq_self]) ?_
  case hx => exact VLe.refl _
  case hb => intro e he; simp only [bk2, List.mem_cons, List.not_mem_nil, or_false] at he; rcases he with rfl | rfl <;> decide
  simp only [beq_self_eq_true, vcR_n, vcR_s, isCall, makes, isStore, newOf, opR, binI, pickV, evS, evV, evX, evParts, evPartsS, fillV, gOf, Go.Bx.get, Go.Bx.own?, cellsV, cut, dropV, takeV, putV, St.stp, Ef.stp, lgs, setE, applyU, newN, List.length_cons, List.length_nil, Bool.and_self, Bool.or_self, Bool.false_eq_true, cond_true, ↓reduceIte, true_and, and_self, forall_const, eq_self, Nat.reduceAdd, Nat.reduceLeDiff, Nat.reduceEqDiff, Nat.zero_add, Nat.le_refl, Nat.succ_ne_self, decide_true, beq_self_eq_true]
  refine TR.gpure (gc := true) rfl (fun _ => hP ▸ turn_spec' bk2 1 (4, 9) (-2) _ _ ?hx ?hy (by decide) ?hb rfl) (fun _ => by simp only [evS, evX, evSs, Go.Bx.get, ↓reduceIte, and_self, forall_const, eq_self, Nat.succ_ne_self]) ?_
  case hx => exact VLe.refl _
  case hy => exact VLe.refl _
  case hb => intro e he; simp only [bk2, List.mem_cons, List.not_mem_nil, or_false] at he; rcases he with rfl | rfl <;> decide
  simp only [beq_self_eq_true, vcR_n, vcR_s, isCall, makes, isStore, newOf, opR, binI, pickV, evS, evV, evX, gOf, Go.Bx.get, Go.Bx.own?, cut, dropV, takeV, St.stp, Ef.stp, lgs, setE, applyU, newN, List.length_cons, List.length_nil, Bool.and_self, Bool.or_self, Bool.false_eq_true, cond_true, ↓reduceIte, true_and, and_self, forall_const, eq_self, Nat.reduceEqDiff, Nat.zero_add, Nat.le_refl, Nat.succ_ne_self, beq_self_eq_true]
  refine TR.gpure (gc := true) rfl (fun _ => hP ▸ trial_spec' bk2 9 _ ?hx (by decide) ?hb) (fun _ => by simp only [evS, evX, evSs, Go.Bx.get, ↓reduceIte, and_self, forall_const, eq_self]) ?_
  case hx => exact VLe.refl _
  case hb => intro e he; simp only [bk2, List.mem_cons, List.not_mem_nil, or_false] at he; rcases he with rfl | rfl <;> decide
  have t0 : trialR bk2 9 0 = 0 := rfl
  have t1 : trialR bk2 9 1 = 3 := rfl
  have t2 : trialR bk2 9 2 = -5 := rfl
  have t3 : trialR bk2 9 3 = 0 := rfl
  have t4 : trialR bk2 9 4 = 0 := rfl
  have t5 : trialR bk2 9 5 = 2 := rfl
  have t6 : trialR bk2 9 6 = 0 := rfl
  have t7 : trialR bk2 9 7 = 0 := rfl
  have t8 : trialR bk2 9 8 = 0 := rfl
  have t9 : trialR bk2 9 9 = 0 := rfl
  simp only [arr10, t0, t1, t2, t3, t4, t5, t6, t7, t8, t9, beq_self_eq_true, vcR_n, vcR_s, isCall, makes, isStore, newOf, opR, pickV, evS, evV, evX, evParts, evPartsS, fillV, gOf, Go.Bx.get, cellsV, nth, putV, St.stp, Ef.stp, lgs, setE, applyU, newN, List.length_cons, List.length_nil, Bool.and_self, Bool.or_self, Bool.false_eq_true, cond_true, ↓reduceIte, true_and, and_self, forall_const, eq_self, Nat.reduceAdd, Nat.reduceLeDiff, Nat.reduceEqDiff, Nat.zero_add, Nat.succ_ne_self, eqS, eqB, decide_true, beq_self_eq_true]
  refine TR.gpure (gc := true) rfl (fun _ => hP ▸ two_spec 1 1 2 1 rfl) (fun _ => by simp only [evS, evX, evSs, and_self]) ?_
  simp only [vcR_s, isCall, St.stp, lgs, setE, applyU, newN, Bool.false_eq_true, ↓reduceIte, eq_self]
  refine TR.gpure (gc := true) rfl (fun _ => hP ▸ right_spec ⟨1, 0, [(1, 1), (2, -1)]⟩ (by decide)) (fun _ => by simp only [evS, evX, evSs, Go.Bx.get, ↓reduceIte, and_self, forall_const, eq_self]) ?_
  have r1 : ((formedR ⟨1, 0, [(1, 1), (2, -1)]⟩).2 && ((formedR ⟨1, 0, [(1, 1), (2, -1)]⟩).1 == 0)) = true := rfl
  simp only [r1, vcR_n, vcR_s, isCall, makes, newOf, opR, pickV, evS, evV, evX, Go.Bx.get, St.stp, Ef.stp, lgs, setE, applyU, newN, Bool.and_self, Bool.false_eq_true, cond_true, ↓reduceIte, true_and, and_self, forall_const, eq_self, Nat.reduceEqDiff, Nat.succ_ne_self]
  refine TR.gpure (gc := true) rfl (fun _ => hP ▸ two_spec 1 2 1 1 rfl) (fun _ => by simp only [evS, evX, evSs, and_self]) ?_
  simp only [vcR_s, isCall, St.stp, lgs, setE, applyU, newN, Bool.false_eq_true, ↓reduceIte, eq_self]
  refine TR.gpure (gc := true) rfl (fun _ => hP ▸ right_spec ⟨1, 0, [(2, 1), (1, -1)]⟩ (by decide)) (fun _ => by simp only [evS, evX, evSs, Go.Bx.get, ↓reduceIte, and_self, forall_const, eq_self]) ?_
  have r2 : ((formedR ⟨1, 0, [(2, 1), (1, -1)]⟩).2 && ((formedR ⟨1, 0, [(2, 1), (1, -1)]⟩).1 == 0)) = false := rfl
  simp only [r2, vcC_ret, seqK_nrm, nrmK_app, vcR_nil, vcR_n, vcR_s, isCall, makes, isStore, newOf, opR, pickV, evS, evV, evX, gOf, Go.Bx.get, St.stp, Ef.stp, lgs, setE, applyU, newN, Bool.and_self, Bool.not_false, Bool.or_self, Bool.false_eq_true, cond_true, ↓reduceIte, true_and, and_self, forall_const, eq_self, Nat.reduceEqDiff, Nat.succ_ne_self]
  exact RetK.pure (by simp only [rs10, ressS, resS, and_self]) (by simp only [rs10, retV, resV, Go.Bx.get, ↓reduceIte, eq_self, VLe_refl, Go.Bx.get, ↓reduceIte, eq_self])
end Go.Proofs.Ytllakgjfgdgfiaa
