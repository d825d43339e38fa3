import Derived.Test.YtkifajabiggfmaaXG7
import Derived.Lib.Mul64
section
set_option linter.unusedSimpArgs false
set_option linter.unusedVariables false
namespace Go.Proofs.Ytkifajabiggfmaa
set_option linter.unusedSimpArgs false
set_option linter.unusedVariables false
open Go.Bx
set_option maxRecDepth 10000
def okS (f t : Int) : Bool := decide (f ≥ 1) && decide (f ≤ t) && decide (t ≤ 292195)
def keptR (f t : Int) : Int × Int := if (!(okS f t) || f == t) = true then (0, 0) else (f, t)
def manyR (f t : Int) : Int := IntKind.i64.wrap ((keptR f t).2 - (keptR f t).1)
def inS (f t d : Int) : Bool := decide (d ≥ (keptR f t).1) && decide (d < (keptR f t).2)
def vS (f t : Int) : V := .ag [.d (.int .i64 f), .d (.int .i64 t)]
theorem s55 (f t : Int) : Ctr Try.prog 68 [vS f t] [] (.d (.bool (okS f t))) [] [] := by
  refine ctr_pure Try.func68 ok68 rfl cc68 cr68 Try.ntmps68 (by simp) rfl rfl ?_; intro c hP hfn; simp only [kc68, vS, vcb, ↓evSo_some, ↓reduceIte, reduceCtorEq, seval]
  exact RetK.pure (by simp only [rs68, rsb, vcb, ↓evSo_some, ↓reduceIte, reduceCtorEq, seval]) (by simp only [rs68, rsb, vcb, ↓evSo_some, ↓reduceIte, reduceCtorEq, seval, enb, vcb, ↓evSo_some, ↓reduceIte, reduceCtorEq, seval, okS])
theorem s51 (f t : Int) : Ctr Try.prog 58 [vS f t] [] (vS (keptR f t).1 (keptR f t).2) [] [] := by
  refine ctr_pure Try.func58 ok58 rfl cc58 cr58 Try.ntmps58 (by simp) rfl rfl ?_; intro c hP hfn; simp only [kc58, vS, vcb, ↓evSo_some, ↓reduceIte, reduceCtorEq, seval]
  repeat' first
      | (first
          | refine TR.p hP (by first | exact s55 ..) (by repeat' first | exact trivial | (intro _; assumption) | apply And.intro) ?_
          | refine TR.gp hP rfl (fun _ => by first | exact s55 ..) (fun _ => by repeat' first | exact trivial | (intro _; assumption) | apply And.intro) ?_
          | refine TR.pv hP rfl (by first | exact s55 ..) trivial (by repeat' first | exact trivial | (intro _; assumption) | apply And.intro) ?_
         try simp only [vcb, ↓evSo_some, ↓reduceIte, reduceCtorEq, seval])
      | refine And.intro (fun h => ?_) (fun h => ?_)
      | refine And.intro (by first | omega | (simp only [maxLen, decide_eq_true_eq, decide_eq_false_iff_not] at *; omega)) ?_
      | (refine TR.aslO rfl rfl rfl rfl trivial (Nat.le_of_ble_eq_true rfl) ?_
         try simp only [vcb, ↓evSo_some, ↓reduceIte, reduceCtorEq, seval])
      | refine And.intro trivial ?_
      | refine And.intro rfl ?_
      | fail
  all_goals exact RetK.pure (by simp only [rs58, rsb, vcb, ↓evSo_some, ↓reduceIte, reduceCtorEq, seval]) (by simp only [rs58, rsb, vcb, ↓evSo_some, ↓reduceIte, reduceCtorEq, seval, enb, vcb, ↓evSo_some, ↓reduceIte, reduceCtorEq, seval, keptR, vS, *])
theorem s39 (f t d : Int) : Ctr Try.prog 39 [vS f t, .d (.int .i64 d)] [] (.d (.bool (inS f t d))) [] [] := by
  refine ctr_pure Try.func39 ok39 rfl cc39 cr39 Try.ntmps39 (by simp) rfl rfl ?_; intro c hP hfn; simp only [kc39, vS, vcb, ↓evSo_some, ↓reduceIte, reduceCtorEq, seval]
  repeat' first
      | (first
          | refine TR.p hP (by first | exact s51 ..) (by repeat' first | exact trivial | (intro _; assumption) | apply And.intro) ?_
          | refine TR.gp hP rfl (fun _ => by first | exact s51 ..) (fun _ => by repeat' first | exact trivial | (intro _; assumption) | apply And.intro) ?_
          | refine TR.pv hP rfl (by first | exact s51 ..) trivial (by repeat' first | exact trivial | (intro _; assumption) | apply And.intro) ?_
         try simp only [vS, vcb, ↓evSo_some, ↓reduceIte, reduceCtorEq, seval])
      | refine And.intro (fun h => ?_) (fun h => ?_)
      | refine And.intro (by first | omega | (simp only [maxLen, decide_eq_true_eq, decide_eq_false_iff_not] at *; omega)) ?_
      | (refine TR.aslO rfl rfl rfl rfl trivial (Nat.le_of_ble_eq_true rfl) ?_
         try simp only [vS, vcb, ↓evSo_some, ↓reduceIte, reduceCtorEq, seval])
      | refine And.intro trivial ?_
      | refine And.intro rfl ?_
      | fail
  exact RetK.pure (by simp only [rs39, rsb, vcb, ↓evSo_some, ↓reduceIte, reduceCtorEq, seval]) (by simp only [rs39, rsb, vcb, ↓evSo_some, ↓reduceIte, reduceCtorEq, seval, enb, vcb, ↓evSo_some, ↓reduceIte, reduceCtorEq, seval, inS])
theorem s42 (f t : Int) : Ctr Try.prog 52 [vS f t] [] (.d (.int .i64 (manyR f t))) [] [] := by
  refine ctr_pure Try.func52 ok52 rfl cc52 cr52 Try.ntmps52 (by simp) rfl rfl ?_; intro c hP hfn; simp only [kc52, vS, vcb, ↓evSo_some, ↓reduceIte, reduceCtorEq, seval]
  repeat' first
      | (first
          | refine TR.p hP (by first | exact s51 ..) (by repeat' first | exact trivial | (intro _; assumption) | apply And.intro) ?_
          | refine TR.gp hP rfl (fun _ => by first | exact s51 ..) (fun _ => by repeat' first | exact trivial | (intro _; assumption) | apply And.intro) ?_
          | refine TR.pv hP rfl (by first | exact s51 ..) trivial (by repeat' first | exact trivial | (intro _; assumption) | apply And.intro) ?_
         try simp only [vS, vcb, ↓evSo_some, ↓reduceIte, reduceCtorEq, seval])
      | refine And.intro (fun h => ?_) (fun h => ?_)
      | refine And.intro (by first | omega | (simp only [maxLen, decide_eq_true_eq, decide_eq_false_iff_not] at *; omega)) ?_
      | (refine TR.aslO rfl rfl rfl rfl trivial (Nat.le_of_ble_eq_true rfl) ?_
         try simp only [vS, vcb, ↓evSo_some, ↓reduceIte, reduceCtorEq, seval])
      | refine And.intro trivial ?_
      | refine And.intro rfl ?_
      | fail
  exact RetK.pure (by simp only [rs52, rsb, vcb, ↓evSo_some, ↓reduceIte, reduceCtorEq, seval]) (by simp only [rs52, rsb, vcb, ↓evSo_some, ↓reduceIte, reduceCtorEq, seval, enb, vcb, ↓evSo_some, ↓reduceIte, reduceCtorEq, seval, manyR])
def inB (lo hi x : Int) : Bool := !(decide (x < lo) || decide (x > hi))
def vW (lo hi : Int) : V := .ag [.d (.int .i64 lo), .d (.int .i64 hi)]
theorem s41 (lo hi : Int) (l : List Int) (hl : l.length ≤ 9223372036854775807) : Ctr Try.prog 41 [vW lo hi, .d (slK .i64 l)] [] (.d (.bool (l.all (inB lo hi)))) [] [] := by
  refine ctr_pure Try.func41 ok41 rfl cc41 cr41 Try.ntmps41 (by simp) rfl rfl ?_; intro c hP hfn; simp only [kc41, vW, vcb, ↓evSo_some, ↓reduceIte, reduceCtorEq, seval]
  refine vcC.loop (X := Nat) (fun k => ⟨[(2, .own 2 0), (7, .d (slK .i64 l)), (8, .d (.int .i64 l.length)), (9, .d (.int .i64 k))], [(2, .fix [.d (.int .i64 lo), .d (.int .i64 hi)])], [2]⟩)
    (fun k => k ≤ l.length ∧ l.all (inB lo hi) = (l.drop k).all (inB lo hi)) (fun k => l.length - k) 0 ⟨Nat.zero_le _, rfl⟩ (Wk.of [] hfn rfl (by simp only [enb, vcb, ↓evSo_some, ↓reduceIte, reduceCtorEq, seval]) (by simp only [enb, vcb, ↓evSo_some, ↓reduceIte, reduceCtorEq, seval])) ?_
  rintro k ⟨hk, he⟩
  simp only [vcb, ↓evSo_some, ↓reduceIte, reduceCtorEq, seval]
  refine ⟨fun h1 => ?_, fun h1 => ?_⟩
  · have hlt : k < l.length := by simpa using h1
    obtain ⟨x, hd, hg, -, -⟩ := drop_at hlt
    simp only [hg]
    rw [hd, List.all_cons] at he
    repeat' first
        | refine And.intro (fun h => ?_) (fun h => ?_)
        | refine And.intro (by first | omega | (simp only [maxLen, decide_eq_true_eq, decide_eq_false_iff_not] at *; omega)) ?_
        | (refine TR.aslO rfl rfl rfl rfl trivial (Nat.le_of_ble_eq_true rfl) ?_
           try simp only [vcb, ↓evSo_some, ↓reduceIte, reduceCtorEq, seval])
        | refine And.intro trivial ?_
        | refine And.intro rfl ?_
        | fail
    · exact RetK.pure (by simp only [rs41, rsb, vcb, ↓evSo_some, ↓reduceIte, reduceCtorEq, seval]) (by (simp only [rs41, rsb, vcb, ↓evSo_some, ↓reduceIte, reduceCtorEq, seval, enb, vcb, ↓evSo_some, ↓reduceIte, reduceCtorEq, seval]) <;> (first | rw [he]; simp [inB, h]))
    · refine lopK.on (k + 1) ⟨hlt, ?_⟩ (by omega) (Wk.of [] hfn rfl (by simp only [enb, vcb, ↓evSo_some, ↓reduceIte, reduceCtorEq, seval]; exact wS (by omega)) (by simp only [enb, vcb, ↓evSo_some, ↓reduceIte, reduceCtorEq, seval]))
      rw [he]; simp [inB, h]
  · have hkl : k = l.length := by simp at h1; omega
    rw [hkl] at he
    exact RetK.pure (by simp only [rs41, rsb, vcb, ↓evSo_some, ↓reduceIte, reduceCtorEq, seval]) (by (simp only [rs41, rsb, vcb, ↓evSo_some, ↓reduceIte, reduceCtorEq, seval, enb, vcb, ↓evSo_some, ↓reduceIte, reduceCtorEq, seval]) <;> (first | simp [he]))
theorem s41' {lo hi : Int} {full : Bool} {n : Nat} {ds : List D} {l : List Int} (h : LitI .i64 ds l) (hn : n = l.length) (hl : l.length ≤ 9223372036854775807) : Ctr Try.prog 41 [vW lo hi, .d (.sl full 1 n (litRow 1 ds))] [] (.d (.bool (l.all (inB lo hi)))) [] [] :=
  (s41 lo hi l hl).arg ⟨VLe.refl _, h.vle hn, trivial⟩
structure Tr where
  id : Int
  kind : Int
  sf : Int
  st : Int
  bp : Int
  att : Int
  wid : Int
  aga : Int
  per : Int
instance : Inhabited Tr := ⟨⟨0, 0, 0, 0, 0, 0, 0, 0, 0⟩⟩
structure Ls where
  cl : Int
  ev : Int
  day : Int
  per : Int
  amt : Int
instance : Inhabited Ls := ⟨⟨0, 0, 0, 0, 0⟩⟩
def cT (t : Tr) : List V := [.d (.int .i64 t.id), .d (.int .i64 t.kind), .d (.int .i64 t.sf), .d (.int .i64 t.st), .d (.int .i64 t.bp), .d (.int .i64 t.att), .d (.int .i64 t.wid), .d (.int .i64 t.aga), .d (.int .i64 t.per)]
def vT (t : Tr) : V := .ag (cT t)
def cX' (x : Ls) : List V := [.d (.int .i64 x.cl), .d (.int .i64 x.ev), .d (.int .i64 x.day), .d (.int .i64 x.per), .d (.int .i64 x.amt)]
def vX (x : Ls) : V := .ag (cX' x)
def slX (l : List Ls) : D := .sl false 5 l.length (fun i => [.int .i64 (l.getD i default).cl, .int .i64 (l.getD i default).ev, .int .i64 (l.getD i default).day, .int .i64 (l.getD i default).per, .int .i64 (l.getD i default).amt])
def rightT (t : Tr) : Bool :=
  !(!(inB 1 1000000000 t.id) || (manyR t.sf t.st == 0) || !(inB 1 255 t.per)) &&
    (if t.kind = 1 then inB 1 10000 t.bp && (inB 0 0 t.att && (inB 0 0 t.wid && inB 0 0 t.aga))
     else if t.kind = 2 ∨ t.kind = 3 then (t.bp == 0) && (inB 0 1000000000000000 t.att && inB 0 1000000000000000 t.wid) && decide (t.wid > 0) && inB 0 100 t.aga
     else false)
theorem s26 (t : Tr) : Ctr Try.prog 29 [vT t] [] (.d (.bool (rightT t))) [] [] := by
  refine ctr_pure Try.func29 ok29 rfl cc29 cr29 Try.ntmps29 (by simp) rfl rfl ?_; intro c hP hfn; simp only [kc29, vT, cT, vcb, ↓evSo_some, ↓reduceIte, reduceCtorEq, seval]
  repeat' first
      | (first
          | refine TR.p hP (by first | exact s41' (by repeat constructor) (by rfl) (by simp) | exact s42 ..) (by repeat' first | exact trivial | (intro _; assumption) | apply And.intro) ?_
          | refine TR.gp hP rfl (fun _ => by first | exact s41' (by repeat constructor) (by rfl) (by simp) | exact s42 ..) (fun _ => by repeat' first | exact trivial | (intro _; assumption) | apply And.intro) ?_
          | refine TR.pv hP rfl (by first | exact s41' (by repeat constructor) (by rfl) (by simp) | exact s42 ..) trivial (by repeat' first | exact trivial | (intro _; assumption) | apply And.intro) ?_
         try simp only [List.all_cons, List.all_nil, vcb, ↓evSo_some, ↓reduceIte, reduceCtorEq, seval])
      | refine And.intro (fun h => ?_) (fun h => ?_)
      | refine And.intro (by first | omega | (simp only [maxLen, decide_eq_true_eq, decide_eq_false_iff_not] at *; omega)) ?_
      | (refine TR.aslO rfl rfl rfl rfl trivial (Nat.le_of_ble_eq_true rfl) ?_
         try simp only [List.all_cons, List.all_nil, vcb, ↓evSo_some, ↓reduceIte, reduceCtorEq, seval])
      | refine And.intro trivial ?_
      | refine And.intro rfl ?_
      | fail
  all_goals exact RetK.pure (by simp only [rs29, rsb, vcb, ↓evSo_some, ↓reduceIte, reduceCtorEq, seval]) (by (simp only [rs29, rsb, vcb, ↓evSo_some, ↓reduceIte, reduceCtorEq, seval, enb, vcb, ↓evSo_some, ↓reduceIte, reduceCtorEq, seval]) <;> (first | (simp [*, rightT]; done) | (simp_all [rightT]; done) | (simp only [rightT]; grind)))
def lossX (x : Ls) : Bool := inB 1 1000000000 x.cl && inB 0 1000000000 x.ev && inB 1 292194 x.day && inB 0 7 x.per && inB 0 1000000000000000 x.amt
theorem s28 (x : Ls) : Ctr Try.prog 22 [vX x] [] (.d (.bool (lossX x))) [] [] := by
  refine ctr_pure Try.func22 ok22 rfl cc22 cr22 Try.ntmps22 (by simp) rfl rfl ?_; intro c hP hfn; simp only [kc22, vX, cX', vcb, ↓evSo_some, ↓reduceIte, reduceCtorEq, seval]
  repeat' first
      | (first
          | refine TR.p hP (by first | exact s41' (by repeat constructor) (by rfl) (by simp)) (by repeat' first | exact trivial | (intro _; assumption) | apply And.intro) ?_
          | refine TR.gp hP rfl (fun _ => by first | exact s41' (by repeat constructor) (by rfl) (by simp)) (fun _ => by repeat' first | exact trivial | (intro _; assumption) | apply And.intro) ?_
          | refine TR.pv hP rfl (by first | exact s41' (by repeat constructor) (by rfl) (by simp)) trivial (by repeat' first | exact trivial | (intro _; assumption) | apply And.intro) ?_
         try simp only [List.all_cons, List.all_nil, vcb, ↓evSo_some, ↓reduceIte, reduceCtorEq, seval])
      | refine And.intro (fun h => ?_) (fun h => ?_)
      | refine And.intro (by first | omega | (simp only [maxLen, decide_eq_true_eq, decide_eq_false_iff_not] at *; omega)) ?_
      | (refine TR.aslO rfl rfl rfl rfl trivial (Nat.le_of_ble_eq_true rfl) ?_
         try simp only [List.all_cons, List.all_nil, vcb, ↓evSo_some, ↓reduceIte, reduceCtorEq, seval])
      | refine And.intro trivial ?_
      | refine And.intro rfl ?_
      | fail
  all_goals exact RetK.pure (by simp only [rs22, rsb, vcb, ↓evSo_some, ↓reduceIte, reduceCtorEq, seval]) (by (simp only [rs22, rsb, vcb, ↓evSo_some, ↓reduceIte, reduceCtorEq, seval, enb, vcb, ↓evSo_some, ↓reduceIte, reduceCtorEq, seval]) <;> (first | (simp [*, lossX]; done) | (simp_all [lossX]; done) | (simp only [lossX]; grind)))
def bitB (per p : Int) : Bool := IntKind.i64.wrap ((BitVec.ofInt IntKind.i64.bits (per.fdiv (2 ^ (min p.toNat IntKind.i64.bits))) &&& BitVec.ofInt IntKind.i64.bits 1).toNat : Int) == 1
def takesT (t : Tr) (x : Ls) : Bool := rightT t && lossX x && inS t.sf t.st x.day && bitB t.per x.per
theorem inB_iff {lo hi x : Int} : inB lo hi x = true ↔ lo ≤ x ∧ x ≤ hi := by
  simp [inB]
theorem lossX_iff {x : Ls} : lossX x = true ↔ (1 ≤ x.cl ∧ x.cl ≤ 1000000000) ∧ (0 ≤ x.ev ∧ x.ev ≤ 1000000000) ∧ (1 ≤ x.day ∧ x.day ≤ 292194) ∧ (0 ≤ x.per ∧ x.per ≤ 7) ∧ (0 ≤ x.amt ∧ x.amt ≤ 1000000000000000) := by
  simp only [lossX, Bool.and_eq_true, inB_iff, and_assoc]
theorem takes_side {t : Tr} {x : Ls} (h : (rightT t && lossX x && inS t.sf t.st x.day) = true) : 0 ≤ x.per := by
  simp only [Bool.and_eq_true, lossX_iff] at h
  exact h.1.2.2.2.2.1.1
theorem s23 (t : Tr) (x : Ls) : Ctr Try.prog 20 [vT t, vX x] [] (.d (.bool (takesT t x))) [] [] := by
  refine ctr_pure Try.func20 ok20 rfl cc20 cr20 Try.ntmps20 (by simp) rfl rfl ?_; intro c hP hfn; simp only [kc20, vT, vX, cT, cX', vcb, ↓evSo_some, ↓reduceIte, reduceCtorEq, seval]
  repeat' first
      | (first
          | refine TR.p hP (by first | exact s26 t | exact s28 x | exact s39 ..) (by repeat' first | exact trivial | (intro _; assumption) | apply And.intro) ?_
          | refine TR.gp hP rfl (fun _ => by first | exact s26 t | exact s28 x | exact s39 ..) (fun _ => by repeat' first | exact trivial | (intro _; assumption) | apply And.intro) ?_
          | refine TR.pv hP rfl (by first | exact s26 t | exact s28 x | exact s39 ..) trivial (by repeat' first | exact trivial | (intro _; assumption) | apply And.intro) ?_
         try simp only [vcb, ↓evSo_some, ↓reduceIte, reduceCtorEq, seval])
      | refine And.intro (fun h => ?_) (fun h => ?_)
      | refine And.intro (by first | omega | (simp only [maxLen, decide_eq_true_eq, decide_eq_false_iff_not] at *; omega)) ?_
      | (refine TR.aslO rfl rfl rfl rfl trivial (Nat.le_of_ble_eq_true rfl) ?_
         try simp only [vcb, ↓evSo_some, ↓reduceIte, reduceCtorEq, seval])
      | refine And.intro trivial ?_
      | refine And.intro rfl ?_
      | refine And.intro (fun h => takes_side h) ?_
      | fail
  all_goals exact RetK.pure (by simp only [rs20, rsb, vcb, ↓evSo_some, ↓reduceIte, reduceCtorEq, seval]) (by (simp only [rs20, rsb, vcb, ↓evSo_some, ↓reduceIte, reduceCtorEq, seval, enb, vcb, ↓evSo_some, ↓reduceIte, reduceCtorEq, seval]) <;> (first | (simp [*, takesT, bitB]; done) | (simp_all [takesT, bitB]; done) | (simp only [takesT, bitB]; grind)))
theorem s38 (t : Tr) : Ctr Try.prog 40 [vT t] [] (.d (.bool (rightT t && t.kind != 1))) [] [] := by
  refine ctr_pure Try.func40 ok40 rfl cc40 cr40 Try.ntmps40 (by simp) rfl rfl ?_; intro c hP hfn; simp only [kc40, vT, cT, vcb, ↓evSo_some, ↓reduceIte, reduceCtorEq, seval]
  repeat' first
      | (first
          | refine TR.p hP (by first | exact s26 t) (by repeat' first | exact trivial | (intro _; assumption) | apply And.intro) ?_
          | refine TR.gp hP rfl (fun _ => by first | exact s26 t) (fun _ => by repeat' first | exact trivial | (intro _; assumption) | apply And.intro) ?_
          | refine TR.pv hP rfl (by first | exact s26 t) trivial (by repeat' first | exact trivial | (intro _; assumption) | apply And.intro) ?_
         try simp only [vcb, ↓evSo_some, ↓reduceIte, reduceCtorEq, seval])
      | refine And.intro (fun h => ?_) (fun h => ?_)
      | refine And.intro (by first | omega | (simp only [maxLen, decide_eq_true_eq, decide_eq_false_iff_not] at *; omega)) ?_
      | (refine TR.aslO rfl rfl rfl rfl trivial (Nat.le_of_ble_eq_true rfl) ?_
         try simp only [vcb, ↓evSo_some, ↓reduceIte, reduceCtorEq, seval])
      | refine And.intro trivial ?_
      | refine And.intro rfl ?_
      | fail
  all_goals exact RetK.pure (by simp only [rs40, rsb, vcb, ↓evSo_some, ↓reduceIte, reduceCtorEq, seval]) (by (simp only [rs40, rsb, vcb, ↓evSo_some, ↓reduceIte, reduceCtorEq, seval, enb, vcb, ↓evSo_some, ↓reduceIte, reduceCtorEq, seval]) <;> (first | (simp [*]; done) | (simp_all []; done) | (simp only [if_true]; grind)))
def highT (t : Tr) : Bool := rightT t && t.kind != 1
def partT (t : Tr) (amt : Int) : Int := if (!(highT t) || decide (amt ≤ t.att)) = true then 0 else min t.wid (IntKind.i64.wrap (amt - t.att))
theorem high_bounds {t : Tr} (h : highT t = true) : (t.kind = 2 ∨ t.kind = 3) ∧ (0 ≤ t.att ∧ t.att ≤ 1000000000000000) ∧ (1 ≤ t.wid ∧ t.wid ≤ 1000000000000000) ∧ (0 ≤ t.aga ∧ t.aga ≤ 100) := by
  unfold highT rightT at h
  by_cases h1 : t.kind = 1
  · simp [h1] at h
  · by_cases h2 : t.kind = 2 ∨ t.kind = 3
    · rw [if_neg h1, if_pos h2] at h
      simp only [Bool.and_eq_true, inB_iff, decide_eq_true_eq] at h
      omega
    · rw [if_neg h1, if_neg h2] at h
      simp at h
def roomT (t : Tr) : Int := if (!(highT t)) = true then 0 else IntKind.i64.wrap (t.wid * IntKind.i64.wrap (1 + t.aga))
theorem s18 (t : Tr) (amt : Int) : Ctr Try.prog 30 [vT t, .d (.int .i64 amt)] [] (.d (.int .i64 (partT t amt))) [] [] := by
  refine ctr_pure Try.func30 ok30 rfl cc30 cr30 Try.ntmps30 (by simp) rfl rfl ?_; intro c hP hfn; simp only [kc30, vT, cT, vcb, ↓evSo_some, ↓reduceIte, reduceCtorEq, seval]
  repeat' first
      | (first
          | refine TR.p hP (by first | exact s38 t) (by repeat' first | exact trivial | (intro _; assumption) | apply And.intro) ?_
          | refine TR.gp hP rfl (fun _ => by first | exact s38 t) (fun _ => by repeat' first | exact trivial | (intro _; assumption) | apply And.intro) ?_
          | refine TR.pv hP rfl (by first | exact s38 t) trivial (by repeat' first | exact trivial | (intro _; assumption) | apply And.intro) ?_
         try simp only [vcb, ↓evSo_some, ↓reduceIte, reduceCtorEq, seval])
      | refine And.intro (fun h => ?_) (fun h => ?_)
      | refine And.intro (by first | omega | (simp only [maxLen, decide_eq_true_eq, decide_eq_false_iff_not] at *; omega)) ?_
      | (refine TR.aslO rfl rfl rfl rfl trivial (Nat.le_of_ble_eq_true rfl) ?_
         try simp only [vcb, ↓evSo_some, ↓reduceIte, reduceCtorEq, seval])
      | refine And.intro trivial ?_
      | refine And.intro rfl ?_
      | fail
  all_goals exact RetK.pure (by simp only [rs30, rsb, vcb, ↓evSo_some, ↓reduceIte, reduceCtorEq, seval]) (by (simp only [rs30, rsb, vcb, ↓evSo_some, ↓reduceIte, reduceCtorEq, seval, enb, vcb, ↓evSo_some, ↓reduceIte, reduceCtorEq, seval]) <;> (first | (simp [*, partT, highT]; done) | (simp_all [partT, highT]; done) | (simp only [partT, highT]; grind)))
theorem s20 (t : Tr) : Ctr Try.prog 21 [vT t] [] (.d (.int .i64 (roomT t))) [] [] := by
  refine ctr_pure Try.func21 ok21 rfl cc21 cr21 Try.ntmps21 (by simp) rfl rfl ?_; intro c hP hfn; simp only [kc21, vT, cT, vcb, ↓evSo_some, ↓reduceIte, reduceCtorEq, seval]
  repeat' first
      | (first
          | refine TR.p hP (by first | exact s38 t) (by repeat' first | exact trivial | (intro _; assumption) | apply And.intro) ?_
          | refine TR.gp hP rfl (fun _ => by first | exact s38 t) (fun _ => by repeat' first | exact trivial | (intro _; assumption) | apply And.intro) ?_
          | refine TR.pv hP rfl (by first | exact s38 t) trivial (by repeat' first | exact trivial | (intro _; assumption) | apply And.intro) ?_
         try simp only [vcb, ↓evSo_some, ↓reduceIte, reduceCtorEq, seval])
      | refine And.intro (fun h => ?_) (fun h => ?_)
      | refine And.intro (by first | omega | (simp only [maxLen, decide_eq_true_eq, decide_eq_false_iff_not] at *; omega)) ?_
      | (refine TR.aslO rfl rfl rfl rfl trivial (Nat.le_of_ble_eq_true rfl) ?_
         try simp only [vcb, ↓evSo_some, ↓reduceIte, reduceCtorEq, seval])
      | refine And.intro trivial ?_
      | refine And.intro rfl ?_
      | fail
  all_goals exact RetK.pure (by simp only [rs21, rsb, vcb, ↓evSo_some, ↓reduceIte, reduceCtorEq, seval]) (by (simp only [rs21, rsb, vcb, ↓evSo_some, ↓reduceIte, reduceCtorEq, seval, enb, vcb, ↓evSo_some, ↓reduceIte, reduceCtorEq, seval]) <;> (first | (simp [*, roomT, highT]; done) | (simp_all [roomT, highT]; done) | (simp only [roomT, highT]; grind)))
theorem s37 (k : Nat) (left amt : Int) : Ctr Try.prog 44 [.own k 0, .d (.int .i64 amt)] [(k, .fix [.d (.int .i64 left)])] (.d (.int .i64 (min amt left))) [(k, .fix [.d (.int .i64 (IntKind.i64.wrap (left - min amt left)))])] [] := by
  refine ctr_own Try.func44 ok44 rfl cc44 cr44 Try.ntmps44 (by simp) (by simp [ctrB, keysO, nodupB, V.names, ownNames, namesL]) ?_
  intro c hP hfn
  simp only [kc44, namesL, V.names, ownNames, vcb, ↓evSo_some, ↓reduceIte, reduceCtorEq, seval]
  exact RetK.mk _ (Wk.refl _ _) (by simp only [rs44, rsb, vcb, ↓evSo_some, ↓reduceIte, reduceCtorEq, seval]) (by simp only [rs44, rsb, vcb, ↓evSo_some, ↓reduceIte, reduceCtorEq, seval, enb, vcb, ↓evSo_some, ↓reduceIte, reduceCtorEq, seval]) (by simp only [enb, vcb, ↓evSo_some, ↓reduceIte, reduceCtorEq, seval])
theorem s35 (x : Ls) : Ctr Try.prog 42 [vX x] [] (.d (.bool (!(lossX x)))) [] [] := by
  refine ctr_pure Try.func42 ok42 rfl cc42 cr42 Try.ntmps42 (by simp) rfl rfl ?_; intro c hP hfn; simp only [kc42, vX, cX', vcb, ↓evSo_some, ↓reduceIte, reduceCtorEq, seval]
  repeat' first
      | (first
          | refine TR.p hP (by first | exact s28 x) (by repeat' first | exact trivial | (intro _; assumption) | apply And.intro) ?_
          | refine TR.gp hP rfl (fun _ => by first | exact s28 x) (fun _ => by repeat' first | exact trivial | (intro _; assumption) | apply And.intro) ?_
          | refine TR.pv hP rfl (by first | exact s28 x) trivial (by repeat' first | exact trivial | (intro _; assumption) | apply And.intro) ?_
         try simp only [vcb, ↓evSo_some, ↓reduceIte, reduceCtorEq, seval])
      | refine And.intro (fun h => ?_) (fun h => ?_)
      | refine And.intro (by first | omega | (simp only [maxLen, decide_eq_true_eq, decide_eq_false_iff_not] at *; omega)) ?_
      | (refine TR.aslO rfl rfl rfl rfl trivial (Nat.le_of_ble_eq_true rfl) ?_
         try simp only [vcb, ↓evSo_some, ↓reduceIte, reduceCtorEq, seval])
      | refine And.intro trivial ?_
      | refine And.intro rfl ?_
      | fail
  all_goals exact RetK.pure (by simp only [rs42, rsb, vcb, ↓evSo_some, ↓reduceIte, reduceCtorEq, seval]) (by (simp only [rs42, rsb, vcb, ↓evSo_some, ↓reduceIte, reduceCtorEq, seval, enb, vcb, ↓evSo_some, ↓reduceIte, reduceCtorEq, seval]) <;> (first | (simp [*]; done) | (simp_all []; done) | (simp only [if_true]; grind)))
def idxX (p : Ls → Bool) : Nat → List Ls → Int
  | _, [] => -1
  | k, x :: r => if p x = true then (k : Int) else idxX p (k + 1) r
theorem idxX_any (p : Ls → Bool) : ∀ (l : List Ls) (k : Nat), decide (idxX p k l ≥ 0) = l.any p
  | [], k => by simp [idxX]
  | x :: r, k => by
    by_cases h : p x = true
    · simp [idxX, h]
    · simp [idxX, h]; simpa using idxX_any p r (k + 1)
theorem s50 (g : Nat) (p : Ls → Bool) (hg : ∀ x, Ctr Try.prog g [vX x] [] (.d (.bool (p x))) [] []) (l : List Ls) (hl : l.length ≤ 9223372036854775807) : Ctr Try.prog 59 [.d (slX l), .fn (.func g) [] []] [] (.d (.int .i64 (idxX p 0 l))) [] [] := by
  refine ctr_pure Try.func59 ok59 rfl cc59 cr59 Try.ntmps59 (by simp) rfl rfl ?_; intro c hP hfn; simp only [kc59, slX, vcb, ↓evSo_some, ↓reduceIte, reduceCtorEq, seval]
  refine vcC.loop (X := Nat) (fun k => ⟨[(0, .d (slX l)), (1, .fn (.func g) [] []), (7, .d (.int .i64 l.length)), (8, .d (.int .i64 k))], [], []⟩)
    (fun k => k ≤ l.length ∧ idxX p 0 l = idxX p k (l.drop k)) (fun k => l.length - k) 0 ⟨Nat.zero_le _, rfl⟩ (Wk.of [] hfn rfl (by simp only [slX, enb, vcb, ↓evSo_some, ↓reduceIte, reduceCtorEq, seval]) (by simp only [enb, vcb, ↓evSo_some, ↓reduceIte, reduceCtorEq, seval])) ?_
  rintro k ⟨hk, he⟩
  simp only [slX, vcb, ↓evSo_some, ↓reduceIte, reduceCtorEq, seval]
  refine ⟨fun h1 => ?_, fun h1 => ?_⟩
  · have hlt : k < l.length := by simpa using h1
    obtain ⟨x, hd, hg', -, -⟩ := drop_at hlt
    simp only [hg']
    rw [hd, idxX] at he
    repeat' first
        | (first
            | refine TR.p hP (by first | exact hg x) (by repeat' first | exact trivial | (intro _; assumption) | apply And.intro) ?_
            | refine TR.gp hP rfl (fun _ => by first | exact hg x) (fun _ => by repeat' first | exact trivial | (intro _; assumption) | apply And.intro) ?_
            | refine TR.pv hP rfl (by first | exact hg x) trivial (by repeat' first | exact trivial | (intro _; assumption) | apply And.intro) ?_
           try simp only [vcb, ↓evSo_some, ↓reduceIte, reduceCtorEq, seval])
        | refine And.intro (fun h => ?_) (fun h => ?_)
        | refine And.intro (by first | omega | (simp only [maxLen, decide_eq_true_eq, decide_eq_false_iff_not] at *; omega)) ?_
        | (refine TR.aslO rfl rfl rfl rfl trivial (Nat.le_of_ble_eq_true rfl) ?_
           try simp only [vcb, ↓evSo_some, ↓reduceIte, reduceCtorEq, seval])
        | refine And.intro trivial ?_
        | refine And.intro rfl ?_
        | fail
    · exact RetK.pure (by simp only [rs59, rsb, vcb, ↓evSo_some, ↓reduceIte, reduceCtorEq, seval]) (by (simp only [rs59, rsb, vcb, ↓evSo_some, ↓reduceIte, reduceCtorEq, seval, enb, vcb, ↓evSo_some, ↓reduceIte, reduceCtorEq, seval]) <;> (first | rw [he, if_pos h]))
    · refine lopK.on (k + 1) ⟨hlt, ?_⟩ (by omega) (Wk.of [] hfn rfl (by simp only [slX, enb, vcb, ↓evSo_some, ↓reduceIte, reduceCtorEq, seval]; exact wS (by omega)) (by simp only [enb, vcb, ↓evSo_some, ↓reduceIte, reduceCtorEq, seval]))
      rw [he, h]; simp
  · have hkl : k = l.length := by simp at h1; omega
    rw [hkl] at he
    exact RetK.pure (by simp only [rs59, rsb, vcb, ↓evSo_some, ↓reduceIte, reduceCtorEq, seval]) (by (simp only [rs59, rsb, vcb, ↓evSo_some, ↓reduceIte, reduceCtorEq, seval, enb, vcb, ↓evSo_some, ↓reduceIte, reduceCtorEq, seval]) <;> (first | simp [he, idxX]))
theorem s36 (g : Nat) (p : Ls → Bool) (hg : ∀ x, Ctr Try.prog g [vX x] [] (.d (.bool (p x))) [] []) (l : List Ls) (hl : l.length ≤ 9223372036854775807) : Ctr Try.prog 43 [.d (slX l), .fn (.func g) [] []] [] (.d (.bool (l.any p))) [] [] := by
  refine ctr_pure Try.func43 ok43 rfl cc43 cr43 Try.ntmps43 (by simp) rfl rfl ?_; intro c hP hfn; simp only [kc43, slX, vcb, ↓evSo_some, ↓reduceIte, reduceCtorEq, seval]
  repeat' first
      | (first
          | refine TR.p hP (by first | exact s50 g p hg l hl) (by repeat' first | exact trivial | (intro _; assumption) | apply And.intro) ?_
          | refine TR.gp hP rfl (fun _ => by first | exact s50 g p hg l hl) (fun _ => by repeat' first | exact trivial | (intro _; assumption) | apply And.intro) ?_
          | refine TR.pv hP rfl (by first | exact s50 g p hg l hl) trivial (by repeat' first | exact trivial | (intro _; assumption) | apply And.intro) ?_
         try simp only [vcb, ↓evSo_some, ↓reduceIte, reduceCtorEq, seval])
      | refine And.intro (fun h => ?_) (fun h => ?_)
      | refine And.intro (by first | omega | (simp only [maxLen, decide_eq_true_eq, decide_eq_false_iff_not] at *; omega)) ?_
      | (refine TR.aslO rfl rfl rfl rfl trivial (Nat.le_of_ble_eq_true rfl) ?_
         try simp only [vcb, ↓evSo_some, ↓reduceIte, reduceCtorEq, seval])
      | refine And.intro trivial ?_
      | refine And.intro rfl ?_
      | fail
  exact RetK.pure (by simp only [rs43, rsb, vcb, ↓evSo_some, ↓reduceIte, reduceCtorEq, seval]) (by (simp only [rs43, rsb, vcb, ↓evSo_some, ↓reduceIte, reduceCtorEq, seval, enb, vcb, ↓evSo_some, ↓reduceIte, reduceCtorEq, seval]) <;> (first | exact idxX_any p l 0))
def dealT (t : Tr) : Int → List Ls → List Int
  | _, [] => []
  | left, x :: r => if takesT t x = true then min (partT t x.amt) left :: dealT t (IntKind.i64.wrap (left - min (partT t x.amt) left)) r else 0 :: dealT t left r
def bearsT (t : Tr) (l : List Ls) : List Int × Int :=
  if (!(rightT t) || t.kind != 2 || l.any (fun x => !(lossX x))) = true then ([], 1)
  else if l.length > 2000 then ([], 2)
  else (dealT t (roomT t) l, 0)
theorem s15 (t : Tr) (l : List Ls) (hl : l.length ≤ 9223372036854775807) : Ctr Try.prog 23 [vT t, .d (slX l)] [] (.tup [.d (slK .i64 (bearsT t l).1), .d (.int .i64 (bearsT t l).2)]) [] [] := by
  refine ctr_pure Try.func23 ok23 rfl cc23 cr23 Try.ntmps23 (by simp) rfl rfl ?_; intro c hP hfn; simp only [kc23, vT, cT, slX, vcb, ↓evSo_some, ↓reduceIte, reduceCtorEq, seval]
  repeat' first
      | (first
          | refine TR.p hP (by first | exact s26 t | exact s36 42 _ s35 l hl) (by repeat' first | exact trivial | (intro _; assumption) | apply And.intro) ?_
          | refine TR.gp hP rfl (fun _ => by first | exact s26 t | exact s36 42 _ s35 l hl) (fun _ => by repeat' first | exact trivial | (intro _; assumption) | apply And.intro) ?_
          | refine TR.pv hP rfl (by first | exact s26 t | exact s36 42 _ s35 l hl) trivial (by repeat' first | exact trivial | (intro _; assumption) | apply And.intro) ?_
         try simp only [vcb, ↓evSo_some, ↓reduceIte, reduceCtorEq, seval])
      | refine And.intro (fun h => ?_) (fun h => ?_)
      | refine And.intro (by first | omega | (simp only [maxLen, decide_eq_true_eq, decide_eq_false_iff_not] at *; omega)) ?_
      | (refine TR.aslO rfl rfl rfl rfl trivial (Nat.le_of_ble_eq_true rfl) ?_
         try simp only [vcb, ↓evSo_some, ↓reduceIte, reduceCtorEq, seval])
      | refine And.intro trivial ?_
      | refine And.intro rfl ?_
      | fail
  · have hb : bearsT t l = ([], 1) := by simp [bearsT, h]
    (refine RetK.pure (by simp only [rs23, rsb, vcb, ↓evSo_some, ↓reduceIte, reduceCtorEq, seval]) (VLe.tups ?_); simp only [rs23, rsb, vcb, ↓evSo_some, ↓reduceIte, reduceCtorEq, seval])
    rw [hb]; exact ⟨nilK, VLe.refl _, trivial⟩
  · rename_i h0
    have h2 : 2000 < l.length := by have := of_decide_eq_true h; omega
    have hb : bearsT t l = ([], 2) := by simp [bearsT, h0, h2]
    (refine RetK.pure (by simp only [rs23, rsb, vcb, ↓evSo_some, ↓reduceIte, reduceCtorEq, seval]) (VLe.tups ?_); simp only [rs23, rsb, vcb, ↓evSo_some, ↓reduceIte, reduceCtorEq, seval])
    rw [hb]; exact ⟨nilK, VLe.refl _, trivial⟩
  · rename_i h0
    have h2 : ¬ l.length > 2000 := by have := of_decide_eq_false h; omega
    have hb : bearsT t l = (dealT t (roomT t) l, 0) := by simp [bearsT, h0, h2]
    repeat' first
        | (first
            | refine TR.p hP (by first | exact s20 t) (by repeat' first | exact trivial | (intro _; assumption) | apply And.intro) ?_
            | refine TR.gp hP rfl (fun _ => by first | exact s20 t) (fun _ => by repeat' first | exact trivial | (intro _; assumption) | apply And.intro) ?_
            | refine TR.pv hP rfl (by first | exact s20 t) trivial (by repeat' first | exact trivial | (intro _; assumption) | apply And.intro) ?_
           try simp only [vcb, ↓evSo_some, ↓reduceIte, reduceCtorEq, seval])
        | refine And.intro (fun h => ?_) (fun h => ?_)
        | refine And.intro (by first | omega | (simp only [maxLen, decide_eq_true_eq, decide_eq_false_iff_not] at *; omega)) ?_
        | (refine TR.aslO rfl rfl rfl rfl trivial (Nat.le_of_ble_eq_true rfl) ?_
           try simp only [vcb, ↓evSo_some, ↓reduceIte, reduceCtorEq, seval])
        | refine And.intro trivial ?_
        | refine And.intro rfl ?_
        | fail
    refine vcC.loop (X := List Int × Int) (fun x => ⟨[(2, .own 2 0), (7, .osl 31), (8, .fn (.func 44) [.own 35 0] []), (37, .d (slX l)), (38, .d (.int .i64 l.length)), (39, .d (.int .i64 x.1.length))],
        [(2, .fix (cT t)), (31, .row 3 1 l.length (fun i => [.int .i64 (x.1.getD i 0)])), (35, .fix [.d (.int .i64 x.2)])], [2, 31, 35]⟩)
      (fun x => x.1.length ≤ l.length ∧ dealT t (roomT t) l = x.1 ++ dealT t x.2 (l.drop x.1.length)) (fun x => l.length - x.1.length) ([], roomT t) ⟨Nat.zero_le _, rfl⟩ (Wk.of [] hfn rfl (by simp only [slX, enb, vcb, ↓evSo_some, ↓reduceIte, reduceCtorEq, seval]) (by simp only [cT, enb, vcb, ↓evSo_some, ↓reduceIte, reduceCtorEq, seval]; exact OLe.row rfl fun i _ => by simp)) ?_
    rintro ⟨dn, left⟩ ⟨hk, he⟩
    simp only at hk he
    simp only [slX, cT, vcb, ↓evSo_some, ↓reduceIte, reduceCtorEq, seval]
    refine ⟨fun h1 => ?_, fun h1 => ?_⟩
    · have hlt : dn.length < l.length := by simpa using h1
      obtain ⟨x, hd, hg, -, -⟩ := drop_at hlt
      simp only [hg]
      rw [hd, dealT] at he
      repeat' first
          | (first
              | refine TR.p hP (by first | exact s23 t x | exact s18 t x.amt) (by repeat' first | exact trivial | (intro _; assumption) | apply And.intro) ?_
              | refine TR.gp hP rfl (fun _ => by first | exact s23 t x | exact s18 t x.amt) (fun _ => by repeat' first | exact trivial | (intro _; assumption) | apply And.intro) ?_
              | refine TR.pv hP rfl (by first | exact s23 t x | exact s18 t x.amt) trivial (by repeat' first | exact trivial | (intro _; assumption) | apply And.intro) ?_
             try simp only [vcb, ↓evSo_some, ↓reduceIte, reduceCtorEq, seval])
          | refine And.intro (fun h => ?_) (fun h => ?_)
          | refine And.intro (by first | omega | (simp only [maxLen, decide_eq_true_eq, decide_eq_false_iff_not] at *; omega)) ?_
          | (refine TR.aslO rfl rfl rfl rfl trivial (Nat.le_of_ble_eq_true rfl) ?_
             try simp only [vcb, ↓evSo_some, ↓reduceIte, reduceCtorEq, seval])
          | refine And.intro trivial ?_
          | refine And.intro rfl ?_
          | fail
      · refine TR.cv1 hP rfl (s37 35 left _) trivial (by repeat' first | exact trivial | (intro _; assumption) | apply And.intro) (by simp only [vcb, ↓evSo_some, ↓reduceIte, reduceCtorEq, seval]) ?_
        simp only [vcb, ↓evSo_some, ↓reduceIte, reduceCtorEq, seval]
        refine ⟨⟨by omega, by omega⟩, by omega, lopK.on (dn ++ [min (partT t x.amt) left], IntKind.i64.wrap (left - min (partT t x.amt) left)) ⟨by simp; omega, ?_⟩ (by simp; omega) (Wk.of [] hfn rfl (by simp only [slX, enb, vcb, ↓evSo_some, ↓reduceIte, reduceCtorEq, seval]; rw [List.length_append]; exact wS (by omega)) (by simp only [cT, enb, vcb, ↓evSo_some, ↓reduceIte, reduceCtorEq, seval]; exact OLe.snoc))⟩
        rw [he, if_pos h]; simp
      · refine lopK.on (dn ++ [0], left) ⟨by simp; omega, ?_⟩ (by simp; omega) (Wk.of [] hfn rfl (by simp only [slX, enb, vcb, ↓evSo_some, ↓reduceIte, reduceCtorEq, seval]; rw [List.length_append]; exact wS (by omega)) (by simp only [cT, enb, vcb, ↓evSo_some, ↓reduceIte, reduceCtorEq, seval]; exact OLe.snoc0))
        rw [he, if_neg (by simp [h])]; simp
    · have hkl : dn.length = l.length := by simp at h1; omega
      rw [hkl] at he
      simp only [List.drop_length, dealT, List.append_nil] at he
      refine RetK.mk _ (Wk.pub 31 rfl) (by simp only [rs23, rsb, vcb, ↓evSo_some, ↓reduceIte, reduceCtorEq, seval]) ?_ trivial
      simp only [rs23, rsb, vcb, ↓evSo_some, ↓reduceIte, reduceCtorEq, seval]
      rw [hb, he]
      exact VLe.tups ⟨VLe.sl hkl.symm (fun _ => rfl) id fun i hi => rfl, VLe.refl _, trivial⟩
theorem s17 (a b : List Int) (ha : a.length ≤ 9223372036854775807) : Ctr Try.prog 19 [.d (slK .i64 a), .d (slK .i64 b)] [] (.d (.bool (decide (a = b)))) [] [] := by
  refine ctr_pure Try.func19 ok19 rfl cc19 cr19 Try.ntmps19 (by simp) rfl rfl ?_; intro c hP hfn; simp only [kc19, vcb, ↓evSo_some, ↓reduceIte, reduceCtorEq, seval]
  refine ⟨fun h => ?_, fun h => ?_⟩
  · have hn : a ≠ b := by rintro rfl; simp at h
    exact RetK.pure (by simp only [rs19, rsb, vcb, ↓evSo_some, ↓reduceIte, reduceCtorEq, seval]) (by (simp only [rs19, rsb, vcb, ↓evSo_some, ↓reduceIte, reduceCtorEq, seval, enb, vcb, ↓evSo_some, ↓reduceIte, reduceCtorEq, seval]) <;> (first | simp [hn]))
  have hab : a.length = b.length := by have h := eq_of_beq (show ((a.length : Int) == b.length) = true by simpa using h); omega
  refine vcC.loop (X := Nat) (fun k => ⟨[(0, .d (slK .i64 a)), (1, .d (slK .i64 b)), (5, .d (.int .i64 k))], [], []⟩)
    (fun k => k ≤ a.length ∧ (a = b ↔ a.drop k = b.drop k)) (fun k => a.length - k) 0 ⟨Nat.zero_le _, by simp⟩ (Wk.of [] hfn rfl (by (simp only [enb, vcb, ↓evSo_some, ↓reduceIte, reduceCtorEq, seval]) <;> (first | exact wS (by omega) | (rw [List.length_append]; exact wS (by omega)) | assumption)) (by simp only [enb, vcb, ↓evSo_some, ↓reduceIte, reduceCtorEq, seval])) ?_
  rintro k ⟨hk, he⟩
  simp only [vcb, ↓evSo_some, ↓reduceIte, reduceCtorEq, seval]
  refine ⟨fun h1 => ?_, fun h1 => ?_⟩
  · have hlt : k < a.length := by have := of_decide_eq_true h1; omega
    obtain ⟨x, hd, hg, -, -⟩ := drop_at hlt
    obtain ⟨y, hd2, hg2, -, -⟩ := drop_at (hab ▸ hlt)
    simp only [hg, hg2]
    rw [hd, hd2] at he
    repeat' first
        | refine And.intro (fun h => ?_) (fun h => ?_)
        | refine And.intro (by first | omega | (simp only [maxLen, decide_eq_true_eq, decide_eq_false_iff_not] at *; omega)) ?_
        | (refine TR.aslO rfl rfl rfl rfl trivial (Nat.le_of_ble_eq_true rfl) ?_
           try simp only [vcb, ↓evSo_some, ↓reduceIte, reduceCtorEq, seval])
        | refine And.intro trivial ?_
        | refine And.intro rfl ?_
        | fail
    · have hn : a ≠ b := fun e => by have := he.1 e; simp at this; simp [this.1] at h
      exact RetK.pure (by simp only [rs19, rsb, vcb, ↓evSo_some, ↓reduceIte, reduceCtorEq, seval]) (by (simp only [rs19, rsb, vcb, ↓evSo_some, ↓reduceIte, reduceCtorEq, seval, enb, vcb, ↓evSo_some, ↓reduceIte, reduceCtorEq, seval]) <;> (first | simp [hn]))
    · refine lopK.on (k + 1) ⟨hlt, ?_⟩ (by omega) (Wk.of [] hfn rfl (by (simp only [enb, vcb, ↓evSo_some, ↓reduceIte, reduceCtorEq, seval]) <;> (first | exact wS (by omega) | (rw [List.length_append]; exact wS (by omega)) | assumption)) (by simp only [enb, vcb, ↓evSo_some, ↓reduceIte, reduceCtorEq, seval]))
      have hxy : x = y := by simpa using h
      rw [he, hxy]; simp
  · have hkl : k = a.length := by have := of_decide_eq_false h1; omega
    have : a = b := he.2 (by rw [hkl]; simp [hab])
    exact RetK.pure (by simp only [rs19, rsb, vcb, ↓evSo_some, ↓reduceIte, reduceCtorEq, seval]) (by (simp only [rs19, rsb, vcb, ↓evSo_some, ↓reduceIte, reduceCtorEq, seval, enb, vcb, ↓evSo_some, ↓reduceIte, reduceCtorEq, seval]) <;> (first | simp [this]))
theorem partT_eq (t : Tr) {amt : Int} (h0 : 0 ≤ amt) (h1 : amt ≤ 1000000000000000000) : partT t amt = if highT t = true ∧ t.att < amt then min t.wid (amt - t.att) else 0 := by
  unfold partT
  by_cases h : highT t = true
  · have hb := high_bounds h
    by_cases h2 : t.att < amt
    · rw [if_neg (by simp [h]; omega), if_pos ⟨h, h2⟩, wI (by omega)]
    · rw [if_pos (by simp [h]; omega), if_neg (fun e => h2 e.2)]
  · rw [if_pos (by simp [h]), if_neg (fun e => h e.1)]
theorem part_bounds (t : Tr) {amt : Int} (h0 : 0 ≤ amt) (h1 : amt ≤ 1000000000000000000) : 0 ≤ partT t amt ∧ partT t amt ≤ amt := by
  rw [partT_eq t h0 h1]
  split
  · rename_i h
    have := high_bounds h.1
    omega
  · omega
theorem roomT_eq (t : Tr) : roomT t = (if highT t = true then t.wid * (1 + t.aga) else 0) ∧ 0 ≤ roomT t ∧ roomT t ≤ 101000000000000000 := by
  unfold roomT
  by_cases h : highT t = true
  · have hb := high_bounds h
    have h1 : 0 ≤ t.wid * (1 + t.aga) := Int.mul_nonneg (by omega) (by omega)
    have h2 : t.wid * (1 + t.aga) ≤ 1000000000000000 * 101 := Int.mul_le_mul (by omega) (by omega) (by omega) (by omega)
    rw [if_neg (by simp [h]), if_pos h, wI (a := 1 + t.aga) (by omega), wI (by omega)]
    exact ⟨rfl, h1, by omega⟩
  · rw [if_pos (by simp [h]), if_neg h]; omega
end Go.Proofs.Ytkifajabiggfmaa
end
section
set_option linter.unusedSimpArgs false
set_option linter.unusedVariables false
namespace Go.Proofs.Ytkifajabiggfmaa
set_option linter.unusedSimpArgs false
set_option linter.unusedVariables false
open Go.ChangeShapes Go.WideShapes Go.ChangeAt Go.RowKit Go.Bx
theorem Try.own : ownKnob Try.prog.godebug = none := by kernel_rfl
theorem Try.laidOut : laidOutB Try.prog = true := by kernel_rfl
def I64 (n : Int) : Prop := -9223372036854775808 ≤ n ∧ n ≤ 9223372036854775807
theorem wf_i64 {n : Int} (h : (Lit.int .i64 n).wf = true) : I64 n := by
  simp only [Lit.wf, Bool.and_eq_true, decide_eq_true_eq] at h
  have e1 : IntKind.i64.min = -9223372036854775808 := by decide +kernel
  have e2 : IntKind.i64.max = 9223372036854775807 := by decide +kernel
  unfold I64; omega
theorem int_reads : Reads Try.prog 3 1 (fun n : Int => [.int .i64 n]) I64 :=
  (Reads.int Try.underlying3 (by kernel_rfl)).map id _ _ (fun _ => rfl) (fun _ => rfl) (fun _ h => wf_i64 h)
theorem span_reads : Reads Try.prog 34 2 (fun l : Int × Int => [.int .i64 l.1, .int .i64 l.2]) (fun l => I64 l.1 ∧ I64 l.2) :=
  (Reads.struct Try.underlying34 (FR.cons rfl int_reads (FR.cons rfl int_reads FR.nil)) (by kernel_rfl)).map (fun x => (x.1, x.2.1)) _ _ (fun _ => rfl) (fun _ => rfl) (fun _ h => ⟨h.1, h.2.1⟩)
def okX (x : Ls) : Prop := I64 x.cl ∧ I64 x.ev ∧ I64 x.day ∧ I64 x.per ∧ I64 x.amt
def okT (t : Tr) : Prop := I64 t.id ∧ I64 t.kind ∧ I64 t.sf ∧ I64 t.st ∧ I64 t.bp ∧ I64 t.att ∧ I64 t.wid ∧ I64 t.aga ∧ I64 t.per
theorem loss_reads : Reads Try.prog 26 5 (fun x : Ls => [.int .i64 x.cl, .int .i64 x.ev, .int .i64 x.day, .int .i64 x.per, .int .i64 x.amt]) okX :=
  (Reads.struct Try.underlying26 (FR.cons rfl int_reads (FR.cons rfl int_reads (FR.cons rfl int_reads (FR.cons rfl int_reads (FR.cons rfl int_reads FR.nil))))) (by kernel_rfl)).map (fun x => ⟨x.1, x.2.1, x.2.2.1, x.2.2.2.1, x.2.2.2.2.1⟩) _ _ (fun _ => rfl) (fun _ => rfl) (fun _ h => ⟨h.1, h.2.1, h.2.2.1, h.2.2.2.1, h.2.2.2.2.1⟩)
theorem losses_reads : Reads Try.prog 22 1 (fun l : List Ls => [slX l]) (fun l => l.length ≤ 9223372036854775807 ∧ ∀ x, x ∈ l → okX x) :=
  (loss_reads.slice Try.underlying22 (by kernel_rfl) (by decide)).map id _ _ (fun _ => rfl) (fun _ => rfl) (fun _ h => h)
theorem treaty_reads : Reads Try.prog 36 9 (fun t : Tr => [.int .i64 t.id, .int .i64 t.kind, .int .i64 t.sf, .int .i64 t.st, .int .i64 t.bp, .int .i64 t.att, .int .i64 t.wid, .int .i64 t.aga, .int .i64 t.per]) okT :=
  (Reads.struct Try.underlying36 (FR.cons rfl int_reads (FR.cons rfl int_reads (FR.cons rfl span_reads (FR.cons rfl int_reads (FR.cons rfl int_reads (FR.cons rfl int_reads (FR.cons rfl int_reads (FR.cons rfl int_reads FR.nil)))))))) (by kernel_rfl)).map (fun x => ⟨x.1, x.2.1, x.2.2.1.1, x.2.2.1.2, x.2.2.2.1, x.2.2.2.2.1, x.2.2.2.2.2.1, x.2.2.2.2.2.2.1, x.2.2.2.2.2.2.2.1⟩) _ _ (fun _ => rfl) (fun _ => rfl) (fun _ h => ⟨h.1, h.2.1, h.2.2.1.1, h.2.2.1.2, h.2.2.2.1, h.2.2.2.2.1, h.2.2.2.2.2.1, h.2.2.2.2.2.2.1, h.2.2.2.2.2.2.2.1⟩)
end Go.Proofs.Ytkifajabiggfmaa
end
section
set_option linter.unusedSimpArgs false
set_option linter.unusedVariables false
namespace Go.Proofs.Ytkifajabiggfmaa
set_option linter.unusedSimpArgs false
set_option linter.unusedVariables false
open Go.Bx
set_option maxRecDepth 10000
def cI (n : Int) : List D := [.int .i64 n]
structure EvS where
  G : List (List Int)
  kn : Int → Int
def evStep (t : Tr) (k : Int) (x : Ls) (s : EvS) : EvS :=
  if takesT t x = true then
    if x.ev ≠ 0 ∧ 0 < s.kn x.ev then ⟨s.G.set (s.kn x.ev - 1).toNat (s.G.getD (s.kn x.ev - 1).toNat [] ++ [k]), s.kn⟩
    else ⟨s.G ++ [[k]], fun n => if n = x.ev then ((s.G.length + 1 : Nat) : Int) else s.kn n⟩
  else s
def evRun (t : Tr) : Nat → List Ls → EvS → EvS
  | _, [], s => s
  | k, x :: r, s => evRun t (k + 1) r (evStep t (k : Int) x s)
def eventsT (t : Tr) (l : List Ls) : List (List Int) := (evRun t 0 l ⟨[], fun _ => 0⟩).G
structure EvI (k : Nat) (s : EvS) : Prop where
  kn : ∀ n, 0 ≤ s.kn n ∧ s.kn n ≤ s.G.length
  len : s.G.length ≤ k
  each : ∀ g, g ∈ s.G → 1 ≤ g.length ∧ g.length ≤ k
theorem EvI.step {k : Nat} {s : EvS} (h : EvI k s) (t : Tr) (x : Ls) : EvI (k + 1) (evStep t (k : Int) x s) := by
  unfold evStep
  split
  · split
    · rename_i hc
      have hb := h.kn x.ev
      have hlt : (s.kn x.ev - 1).toNat < s.G.length := by omega
      have hg : s.G[(s.kn x.ev - 1).toNat] ∈ s.G := List.getElem_mem hlt
      refine ⟨fun n => by simpa using h.kn n, by simp; have := h.len; omega, fun g hg' => ?_⟩
      rcases List.mem_or_eq_of_mem_set hg' with h1 | h1
      · have := h.each g h1; omega
      · subst h1
        have h2 := h.each _ hg
        rw [List.getD_eq_getElem?_getD, List.getElem?_eq_getElem hlt, List.length_append, List.length_singleton, Option.getD_some]
        omega
    · refine ⟨fun n => ?_, by simp; have := h.len; omega, fun g hg' => ?_⟩
      · dsimp only
        have := h.kn n
        split <;> simp <;> omega
      · rw [List.mem_append] at hg'
        rcases hg' with h1 | h1
        · have := h.each g h1; omega
        · simp at h1; subst h1; simp
  · exact ⟨h.kn, by have := h.len; omega, fun g hg => by have := h.each g hg; omega⟩
def evSt (t : Tr) (l : List Ls) (k : Nat) (s : EvS) : St :=
  ⟨[(2, .own 2 0), (5, .osl 1000), (6, .osl 10), (11, .d (slX l)), (12, .d (.int .i64 l.length)), (13, .d (.int .i64 k))],
   (1000, .lit 32 1 s.G.length (nestC 0 cI 5000 1 1 0 s.G)) :: ([(2, .fix (cT t)), (10, .mp (.int .i64 0) (fun n => .int .i64 (s.kn n)))] ++ nestO 0 cI 5000 1 3 1 0 s.G), [1000, 2, 10] ++ nmN 5000 s.G.length⟩
theorem nest_at {G : List (List Int)} {i : Nat} {g : List Int} (h : G[i]? = some g) (hg : 1 < g.length) : own? (nestO 0 cI 5000 1 3 1 0 G) (5000 + i) = some (.row 3 1 g.length (fun j => cI (g.getD j 0))) := by
  rw [nestO_own, if_pos (by omega), show 5000 + i - (5000 + 0) = i by omega, h]
  simp only; rw [if_pos hg]
theorem Wk.ev {c : Ctx} {st : St} {t : Tr} {l : List Ls} {k : Nat} {s : EvS} (x y : Nat) (hfn : c.fn = []) (he : EnvLe (renE (Go.Bx.sw x y) st.env) (evSt t l k s).env)
    (hA : OwnLeS (Go.Bx.sw x y) st.own [(2, .fix (cT t)), (10, .mp (.int .i64 0) (fun n => .int .i64 (s.kn n)))])
    (hl : ∃ o', own? st.own (Go.Bx.sw x y 1000) = some o' ∧ OLe (o'.ren (Go.Bx.sw x y)) (.lit 32 1 s.G.length (nestC 0 cI 5000 1 1 0 s.G)))
    (hi : ∀ i g, s.G[i]? = some g → 1 < g.length → ∃ o', own? st.own (Go.Bx.sw x y (5000 + i)) = some o' ∧ OLe (o'.ren (Go.Bx.sw x y)) (.row 3 1 g.length (fun j => cI (g.getD j 0)))) : Wk c st (evSt t l k s) :=
  Wk.nest (dx := 0) (cells := cI) (K := 5000) (K' := 1000) (τ := 1) (e' := 32) (e := 3) (sz := 1) (G := s.G) x y [] hfn (by simp) (by simp) (env := (evSt t l k s).env) (A := [(2, .fix (cT t)), (10, .mp (.int .i64 0) (fun n => .int .i64 (s.kn n)))]) (N := [1000, 2, 10]) rfl rfl he hA hl hi
theorem ne_lo {a i : Nat} (h : a < 5000) : (a = 5000 + i) = False := eq_false (by omega)
theorem ne_hi {a i : Nat} (h : a < 5000) : (5000 + i = a) = False := eq_false (by omega)
theorem own?_delSet {K τ e sz i : Nat} {G : List (List Int)} {a : Nat} {o : Own} (k k1 : Nat) : own? (delO (setO (nestO 0 cI K τ e sz i G) a o) k) k1 = if k1 = k then none else own? (setO (nestO 0 cI K τ e sz i G) a o) k1 := own?_delO (nodup_setO nestO_nodup) k k1
theorem own?_delSet2 {K τ e sz i : Nat} {G : List (List Int)} {a a2 : Nat} {o o2 : Own} (k k1 : Nat) : own? (delO (setO (setO (nestO 0 cI K τ e sz i G) a o) a2 o2) k) k1 = if k1 = k then none else own? (setO (setO (nestO 0 cI K τ e sz i G) a o) a2 o2) k1 := own?_delO (nodup_setO (nodup_setO nestO_nodup)) k k1
theorem VsLe.snoc {x y : V} (h : VLe x y) : ∀ (a : List V), VsLe (a ++ [x]) (a ++ [y])
  | [] => ⟨h, trivial⟩
  | v :: a => ⟨VLe.refl v, VsLe.snoc h a⟩
theorem renL_app (p : Nat → Nat) (a b : List V) : renL p (a ++ b) = renL p a ++ renL p b := by rw [renL_eq, renL_eq, renL_eq, List.map_append]
set_option maxHeartbeats 4000000 in
theorem sEvents (t : Tr) (l : List Ls) (hl : l.length ≤ 1000000) : Ctr Try.prog 15 [vT t, .d (slX l)] [] (.d (.sl false 1 (eventsT t l).length (nestD 0 cI 1 (eventsT t l)))) [] [] := by
  refine ctr_pure Try.func15 ok15 rfl cc15 cr15 Try.ntmps15 (by simp) rfl rfl ?_; intro c hP hfn; simp only [kc15, vT, cT, slX, vcb, ↓evSo_some, ↓reduceIte, reduceCtorEq, seval]
  refine vcC.loop (X := Nat × EvS) (fun x => evSt t l x.1 x.2)
    (fun x => x.1 ≤ l.length ∧ EvI x.1 x.2 ∧ eventsT t l = (evRun t x.1 (l.drop x.1) x.2).G) (fun x => l.length - x.1) (0, ⟨[], fun _ => 0⟩) ⟨Nat.zero_le _, ⟨fun n => by simp, Nat.le_refl _, fun g hg => by simp at hg⟩, rfl⟩
    ((Wk.row0 (s := 5) (k := 1000) (e := 32) (sz := 1) (f' := fun _ => []) rfl rfl (by simp)).trans (Wk.of (b := evSt t l 0 ⟨[], fun _ => 0⟩) _ hfn rfl (by simp only [evSt, slX, enb, vcb, ↓evSo_some, ↓reduceIte, reduceCtorEq, seval]) (by simp only [evSt, cT, nestC, nestO, enb, vcb, ↓evSo_some, ↓reduceIte, reduceCtorEq, seval]; exact OLe.rowLit rfl))) ?_
  rintro ⟨k, s⟩ ⟨hk, hI, he⟩
  simp only at hk hI he
  simp only [evSt, cT, slX, own?_setO, own?_nestD, mem_nmN, vcb, ↓evSo_some, ↓reduceIte, reduceCtorEq, seval]
  refine ⟨fun h1 => ?_, fun h1 => ?_⟩
  · have hlt : k < l.length := by have := of_decide_eq_true h1; omega
    obtain ⟨x, hd, hg, -, -⟩ := drop_at hlt
    rw [hd, evRun] at he
    have hI' := hI.step t x
    have ct := s23 t x
    simp only [vT, cT, vX, cX'] at ct
    simp only [hg, own?_setO, own?_nestD, mem_nmN, vcb, ↓evSo_some, ↓reduceIte, reduceCtorEq, seval]
    repeat' first
        | (first
            | refine TR.p hP (by first | exact ct) (by repeat' first | exact trivial | (intro _; assumption) | apply And.intro) ?_
            | refine TR.gp hP rfl (fun _ => by first | exact ct) (fun _ => by repeat' first | exact trivial | (intro _; assumption) | apply And.intro) ?_
            | refine TR.pv hP rfl (by first | exact ct) trivial (by repeat' first | exact trivial | (intro _; assumption) | apply And.intro) ?_
           try simp only [hg, own?_setO, own?_nestD, mem_nmN, vcb, ↓evSo_some, ↓reduceIte, reduceCtorEq, seval])
        | refine And.intro (fun h => ?_) (fun h => ?_)
        | refine And.intro (by first | omega | (simp only [maxLen, decide_eq_true_eq, decide_eq_false_iff_not] at *; omega)) ?_
        | (refine TR.aslO rfl rfl rfl rfl trivial (Nat.le_of_ble_eq_true rfl) ?_
           try simp only [hg, own?_setO, own?_nestD, mem_nmN, vcb, ↓evSo_some, ↓reduceIte, reduceCtorEq, seval])
        | refine And.intro trivial ?_
        | refine And.intro rfl ?_
        | fail
    · have es : evStep t (k : Int) x s = s := by
        have h' : ¬ takesT t x = true := by simpa using h
        rw [evStep, if_neg h']
      rw [es] at he hI'
      exact lopK.on (k + 1, s) ⟨hlt, hI', he⟩ (by simp only; omega) (Wk.ev (t := t) (l := l) 0 0 hfn (by simp only [evSt, slX, enb, vcb, ↓evSo_some, ↓reduceIte, reduceCtorEq, seval]; exact wS (by omega)) (by simp only [OwnLeS, cT, enb, vcb, ↓evSo_some, ↓reduceIte, reduceCtorEq, seval])
        ⟨.lit 32 1 s.G.length (nestC 0 cI 5000 1 1 0 s.G), by simp only [enb, vcb, ↓evSo_some, ↓reduceIte, reduceCtorEq, seval], by simp only [Own.ren, nest_ren (show 0 < 5000 by decide) (show 0 < 5000 by decide)]; exact OLe.refl _⟩
        (fun i g hg1 hg2 => ⟨.row 3 1 g.length (fun j => cI (g.getD j 0)), by simp only [own?_setO, own?_nestD, own?_delSet, own?_delSet2, ne_lo, ne_hi, nest_at hg1 hg2, enb, vcb, ↓evSo_some, ↓reduceIte, reduceCtorEq, seval], OLe.refl _⟩))
    · have hT : takesT t x = true := by rename_i h8; simpa using h8
      have hc : x.ev ≠ 0 ∧ 0 < s.kn x.ev := by simpa using h
      have ewk : IntKind.i64.wrap ((k : Int) + 1) = ((k + 1 : Nat) : Int) := wS (by omega)
      have hb := hI.kn x.ev
      obtain ⟨i, hi⟩ : ∃ i : Nat, s.kn x.ev - 1 = (i : Int) := ⟨(s.kn x.ev - 1).toNat, by omega⟩
      have hil : i < s.G.length := by omega
      have hl2 := hI.len
      have ew : IntKind.i64.wrap (s.kn x.ev - 1) = (i : Int) := by rw [hi]; exact wI (by omega)
      have hgi : s.G[i]? = some s.G[i] := List.getElem?_eq_getElem hil
      have hgd : s.G.getD i [] = s.G[i] := by rw [List.getD_eq_getElem?_getD, hgi]; rfl
      have hge := hI.each _ (List.getElem_mem hil)
      have hes : evStep t (k : Int) x s = ⟨s.G.set i (s.G[i] ++ [(k : Int)]), s.kn⟩ := by
        rw [evStep, if_pos hT, if_pos hc, hi, Int.toNat_natCast, hgd]
      rw [hes] at he hI'
      generalize s.G[i] = g at *
      have hnth := nestC_nth (dx := (0 : Int)) (cells := cI) (K := 5000) (τ := 1) (sz := 1) (i := 0) hgi
      rw [Nat.zero_add] at hnth
      have hfin : ∀ (st : St), EnvLe (renE (Go.Bx.sw 43 (5000 + i)) st.env) (evSt t l (k + 1) ⟨s.G.set i (g ++ [(k : Int)]), s.kn⟩).env → OwnLeS (Go.Bx.sw 43 (5000 + i)) st.own [(2, .fix (cT t)), (10, .mp (.int .i64 0) (fun n => .int .i64 (s.kn n)))] →
          own? st.own 1000 = some (.lit 32 1 s.G.length (putV (nestC 0 cI 5000 1 1 0 s.G) i [.osl 43])) →
          (∃ n F, own? st.own 43 = some (.row 3 1 n F) ∧ n = g.length + 1 ∧ ∀ q, q < g.length + 1 → F q = cI ((g ++ [(k : Int)]).getD q 0)) →
          (∀ j, j ≠ i → own? st.own (5000 + j) = own? (nestO 0 cI 5000 1 3 1 0 s.G) (5000 + j)) →
          Wk c st (evSt t l (k + 1) ⟨s.G.set i (g ++ [(k : Int)]), s.kn⟩) := by
        intro st q1 q2 q3 q4 q5
        obtain ⟨n, F, q6, rfl, q7⟩ := q4
        have hsw : Go.Bx.sw 43 (5000 + i) 1000 = 1000 := by simp only [Go.Bx.sw, ne_lo, ne_hi, enb, vcb, ↓evSo_some, ↓reduceIte, reduceCtorEq, seval]
        refine Wk.ev 43 (5000 + i) hfn q1 q2 ⟨_, by rw [hsw]; exact q3, ?_⟩ (fun j g' hg1 hg2 => ?_)
        · have hp := putV_nest (dx := (0 : Int)) (cells := cI) (K := 5000) (τ := 1) (sz := 1) (i0 := 0) (i := i) (g := g ++ [(k : Int)]) hil (by simp; omega) 43
          rw [if_pos (by decide), Nat.zero_add] at hp
          simp only [Own.ren, hp, List.length_set]
          exact OLe.refl _
        · by_cases e : j = i
          · subst e
            rw [List.getElem?_set_self hil] at hg1
            cases hg1
            have hsj : Go.Bx.sw 43 (5000 + j) (5000 + j) = 43 := by unfold Go.Bx.sw; rw [if_neg (by omega), if_pos rfl]
            refine ⟨.row 3 1 (g.length + 1) F, by rw [hsj]; exact q6, ?_⟩
            exact OLe.row (by simp) q7
          · rw [List.getElem?_set_ne (fun g => e g.symm)] at hg1
            refine ⟨_, by rw [show Go.Bx.sw 43 (5000 + i) (5000 + j) = 5000 + j by unfold Go.Bx.sw; rw [if_neg (by omega), if_neg (by omega)], q5 j e]; exact nest_at hg1 hg2, OLe.refl _⟩
      by_cases hg1 : g.length ≤ 1
      · rw [if_pos hg1] at hnth
        have hg0 : g.length = 1 := by omega
        simp only [ew, hnth, hg0, own?_setO, own?_nestD, own?_delSet, own?_delSet2, ne_lo, ne_hi, mem_nmN, vcb, ↓evSo_some, ↓reduceIte, reduceCtorEq, seval]
        refine ⟨⟨by omega, by omega⟩, hil, by simp only [maxLen]; omega, ⟨by omega, by omega⟩, hil, lopK.on (k + 1, ⟨s.G.set i (g ++ [(k : Int)]), s.kn⟩) ⟨hlt, hI', he⟩ (by simp only; omega) (hfin _ (by simp only [evSt, slX, ewk, ne_lo, ne_hi, enb, vcb, ↓evSo_some, ↓reduceIte, reduceCtorEq, seval]) (by simp only [OwnLeS, cT, own?_setO, own?_nestD, own?_delSet, own?_delSet2, ne_lo, ne_hi, enb, vcb, ↓evSo_some, ↓reduceIte, reduceCtorEq, seval]) (by simp only [own?_setO, own?_nestD, own?_delSet, own?_delSet2, ne_lo, ne_hi, enb, vcb, ↓evSo_some, ↓reduceIte, reduceCtorEq, seval]) ⟨_, _, by simp only [own?_setO, own?_nestD, own?_delSet, own?_delSet2, ne_lo, ne_hi, enb, vcb, ↓evSo_some, ↓reduceIte, reduceCtorEq, seval]; rfl, by omega, ?_⟩ (fun j hj => ?_))⟩
        · intro q hq
          by_cases e : q < g.length
          · have e3 : q < 1 ∨ 1 ≤ q := by omega
            simp [e, cI, List.getElem?_append_left e]; try omega
          · have e2 : q = g.length := by omega
            have hne : ¬ g = [] := fun h => by rw [h] at hge; simp at hge
            subst e2
            first | (simp [litRow, cI]; done) | (simp [litRow, cI, hne, hg0]; done)
        · have hji : (5000 + j = 5000 + i) = False := eq_false (by omega)
          simp only [hji, own?_setO, own?_nestD, own?_delSet, own?_delSet2, ne_lo, ne_hi, enb, vcb, ↓evSo_some, ↓reduceIte, reduceCtorEq, seval]
      · rw [if_neg hg1] at hnth
        have hrow := nest_at hgi (by omega)
        simp only [ew, hnth, hrow, own?_setO, own?_nestD, own?_delSet, own?_delSet2, ne_lo, ne_hi, mem_nmN, vcb, ↓evSo_some, ↓reduceIte, reduceCtorEq, seval]
        refine ⟨⟨by omega, by omega⟩, hil, ⟨by omega, by simp only [maxLen]; omega⟩, ⟨by omega, by omega⟩, hil, lopK.on (k + 1, ⟨s.G.set i (g ++ [(k : Int)]), s.kn⟩) ⟨hlt, hI', he⟩ (by simp only; omega) (hfin _ (by simp only [evSt, slX, ewk, ne_lo, ne_hi, enb, vcb, ↓evSo_some, ↓reduceIte, reduceCtorEq, seval]) (by simp only [OwnLeS, cT, own?_setO, own?_nestD, own?_delSet, own?_delSet2, ne_lo, ne_hi, enb, vcb, ↓evSo_some, ↓reduceIte, reduceCtorEq, seval]) (by simp only [own?_setO, own?_nestD, own?_delSet, own?_delSet2, ne_lo, ne_hi, enb, vcb, ↓evSo_some, ↓reduceIte, reduceCtorEq, seval]) ⟨_, _, by simp only [own?_setO, own?_nestD, own?_delSet, own?_delSet2, ne_lo, ne_hi, enb, vcb, ↓evSo_some, ↓reduceIte, reduceCtorEq, seval]; rfl, by omega, ?_⟩ (fun j hj => ?_))⟩
        · intro q hq
          by_cases e : q < g.length
          · have e3 : q < 1 ∨ 1 ≤ q := by omega
            simp [e, cI, List.getElem?_append_left e]; try omega
          · have e2 : q = g.length := by omega
            have hne : ¬ g = [] := fun h => by rw [h] at hge; simp at hge
            subst e2
            first | (simp [litRow, cI]; done) | (simp [litRow, cI, hne, hg0]; done)
        · have hji : (5000 + j = 5000 + i) = False := eq_false (by omega)
          simp only [hji, own?_setO, own?_nestD, own?_delSet, own?_delSet2, ne_lo, ne_hi, enb, vcb, ↓evSo_some, ↓reduceIte, reduceCtorEq, seval]
    · have hT : takesT t x = true := by rename_i h8; simpa using h8
      have hc : ¬ (x.ev ≠ 0 ∧ 0 < s.kn x.ev) := by
        intro hh; rw [Bool.and_eq_false_iff] at h
        rcases h with h | h
        · exact hh.1 (by simpa using h)
        · have := of_decide_eq_false h; omega
      have hl2 := hI.len
      have ewk : IntKind.i64.wrap ((k : Int) + 1) = ((k + 1 : Nat) : Int) := wS (by omega)
      have hes : evStep t (k : Int) x s = ⟨s.G ++ [[(k : Int)]], fun n => if n = x.ev then ((s.G.length + 1 : Nat) : Int) else s.kn n⟩ := by
        rw [evStep, if_pos hT, if_neg hc]
      rw [hes] at he hI'
      refine ⟨⟨by omega, by simp only [maxLen]; omega⟩, lopK.on (k + 1, ⟨s.G ++ [[(k : Int)]], fun n => if n = x.ev then ((s.G.length + 1 : Nat) : Int) else s.kn n⟩) ⟨hlt, hI', he⟩ (by simp only; omega)
        (Wk.ev (t := t) (l := l) 49 1000 hfn (by simp only [evSt, slX, ewk, ne_lo, ne_hi, enb, vcb, ↓evSo_some, ↓reduceIte, reduceCtorEq, seval]) (by simp only [OwnLeS, cT, own?_setO, own?_nestD, own?_delSet, own?_delSet2, ne_lo, ne_hi, enb, vcb, ↓evSo_some, ↓reduceIte, reduceCtorEq, seval]; exact OLe.eq (by congr 1; funext n; by_cases e : n = x.ev <;> simp [e]))
          ⟨_, by simp only [own?_setO, own?_nestD, own?_delSet, own?_delSet2, ne_lo, ne_hi, enb, vcb, ↓evSo_some, ↓reduceIte, reduceCtorEq, seval]; rfl, ?_⟩
          (fun j g hg1 hg2 => ?_))⟩
      · have hp := nest_ren (dx := (0 : Int)) (cells := cI) (K := 5000) (τ := 1) (sz := 1) (i := 0) (G := s.G) (show 49 < 5000 by decide) (show 1000 < 5000 by decide)
        simp only [Own.ren, renL_app, hp, nestC_app, List.length_append, List.length_singleton, nestC, renL, V.ren, Nat.le_refl, if_true]
        exact OLe.lits (VsLe.snoc (VLe.sl rfl (fun _ => rfl) id (fun q hq => by
          have : q = 0 := by omega
          subst this; simp [cI, litRow])) _)
      · have hj : s.G[j]? = some g := by
          by_cases e : j < s.G.length
          · rwa [List.getElem?_append_left e] at hg1
          · rw [List.getElem?_append_right (by omega)] at hg1
            have : j - s.G.length = 0 := by
              by_cases e0 : j - s.G.length = 0
              · exact e0
              · rw [List.getElem?_eq_none (by simp; omega)] at hg1; cases hg1
            rw [this] at hg1
            simp at hg1; subst hg1; simp at hg2
        exact ⟨.row 3 1 g.length (fun j => cI (g.getD j 0)), by simp only [own?_setO, own?_nestD, own?_delSet, own?_delSet2, ne_lo, ne_hi, nest_at hj hg2, enb, vcb, ↓evSo_some, ↓reduceIte, reduceCtorEq, seval], OLe.refl _⟩
  · have hkl : k = l.length := by have := of_decide_eq_false h1; omega
    rw [hkl, List.drop_length, evRun] at he
    refine RetK.mk _ ((Wk.nestPub (dx := 0) (cells := cI) (K' := 1000) (K := 5000) (τ := 1) (e' := 32) (e := 3) (sz := 1) (G := s.G) (own' := [(1000, .row 32 1 s.G.length (nestD 0 cI 1 s.G))]) (by simp only [vcb, ↓evSo_some, ↓reduceIte, reduceCtorEq, seval])
        (fun i g hg1 hg2 => by simp only [ne_lo, ne_hi, nest_at hg1 hg2, vcb, ↓evSo_some, ↓reduceIte, reduceCtorEq, seval]) (by simp [keysO]) (fun k o hm => by simp at hm; obtain ⟨rfl, rfl⟩ := hm; exact .inl ⟨rfl, rfl⟩) (fun i hi => by simp [keysO]; omega)).trans (Wk.pub 1000 rfl)) (by simp only [rs15, rsb, vcb, ↓evSo_some, ↓reduceIte, reduceCtorEq, seval]) ?_ trivial
    simp only [rs15, rsb, vcb, ↓evSo_some, ↓reduceIte, reduceCtorEq, seval]
    rw [he]; exact VLe.refl _
end Go.Proofs.Ytkifajabiggfmaa
end
section
set_option linter.unusedSimpArgs false
set_option linter.unusedVariables false
namespace Go.Proofs.Ytkifajabiggfmaa
set_option linter.unusedSimpArgs false
set_option linter.unusedVariables false
open Go.Bx
set_option maxRecDepth 10000
theorem head_app {g : List Int} (h : 1 ≤ g.length) (k : Int) : (g ++ [k]).getD 0 0 = g.getD 0 0 := by
  cases g with
  | nil => simp at h
  | cons a g => simp
def evOf (l : List Ls) (g : List Int) : Int := (l.getD (g.getD 0 0).toNat default).ev
structure EvJ (l : List Ls) (k : Nat) (s : EvS) : Prop where
  i : EvI k s
  hd : ∀ (q : Nat) (g : List Int), s.G[q]? = some g → 0 ≤ g.getD 0 0 ∧ g.getD 0 0 < k
  ev : ∀ e, e ≠ 0 → ∀ (q : Nat) (g : List Int), s.G[q]? = some g → (evOf l g = e ↔ s.kn e = (q : Int) + 1)
theorem EvJ.step {l : List Ls} {k : Nat} {s : EvS} (h : EvJ l k s) (t : Tr) (x : Ls) (hx : l.getD k default = x) : EvJ l (k + 1) (evStep t (k : Int) x s) := by
  refine ⟨h.i.step t x, ?_, ?_⟩
  · unfold evStep
    split
    · split
      · intro q g hg
        dsimp only at hg
        by_cases e : (s.kn x.ev - 1).toNat = q
        · subst e
          have hlt : (s.kn x.ev - 1).toNat < s.G.length := by simpa using (List.getElem?_eq_some_iff.1 hg).1
          rw [List.getElem?_set_self hlt] at hg
          cases hg
          have hgg := List.getElem?_eq_getElem hlt
          have hge := h.i.each _ (List.getElem_mem hlt)
          have hh := h.hd _ _ hgg
          rw [List.getD_eq_getElem?_getD (l := s.G), hgg, Option.getD_some]
          generalize s.G[(s.kn x.ev - 1).toNat] = g at *
          have : (g ++ [(k : Int)]).getD 0 0 = g.getD 0 0 := head_app hge.1 _
          rw [this]; omega
        · rw [List.getElem?_set_ne e] at hg
          have := h.hd q g hg; omega
      · intro q g hg
        dsimp only at hg
        by_cases e : q < s.G.length
        · rw [List.getElem?_append_left e] at hg
          have := h.hd q g hg; omega
        · rw [List.getElem?_append_right (by omega)] at hg
          cases hq : q - s.G.length with
          | zero => rw [hq] at hg; simp at hg; subst hg; simp; omega
          | succ m => rw [hq] at hg; simp at hg
    · intro q g hg
      have := h.hd q g hg; omega
  · unfold evStep
    split
    · split
      · intro e he q g hg
        dsimp only at hg ⊢
        by_cases eq : (s.kn x.ev - 1).toNat = q
        · subst eq
          have hlt : (s.kn x.ev - 1).toNat < s.G.length := by simpa using (List.getElem?_eq_some_iff.1 hg).1
          rw [List.getElem?_set_self hlt] at hg
          cases hg
          have hgg := List.getElem?_eq_getElem hlt
          have hge := h.i.each _ (List.getElem_mem hlt)
          have hh := h.ev e he _ _ hgg
          rw [List.getD_eq_getElem?_getD (l := s.G), hgg, Option.getD_some]
          generalize s.G[(s.kn x.ev - 1).toNat] = g at *
          have : (g ++ [(k : Int)]).getD 0 0 = g.getD 0 0 := head_app hge.1 _
          unfold evOf at hh ⊢
          rw [this]; exact hh
        · rw [List.getElem?_set_ne eq] at hg
          exact h.ev e he q g hg
      · rename_i hc
        intro e he q g hg
        dsimp only at hg ⊢
        have hb := h.i.kn e
        by_cases eq : q < s.G.length
        · rw [List.getElem?_append_left eq] at hg
          have hh := h.ev e he q g hg
          by_cases ee : e = x.ev
          · rw [if_pos ee]
            have h0 : s.kn e = 0 := by
              have := h.i.kn x.ev
              rw [← ee] at hc this
              omega
            rw [hh]; omega
          · rw [if_neg ee]; exact hh
        · rw [List.getElem?_append_right (by omega)] at hg
          cases hq : q - s.G.length with
          | zero =>
            rw [hq] at hg; simp at hg; subst hg
            have hqn : q = s.G.length := by omega
            have hev : evOf l [(k : Int)] = x.ev := by unfold evOf; simp only [List.getD_cons_zero, Int.toNat_natCast]; rw [hx]
            rw [hev]
            by_cases ee : e = x.ev
            · rw [if_pos ee, hqn]; simp [ee]
            · rw [if_neg ee]
              constructor
              · intro g; exact absurd g.symm ee
              · intro g; omega
          | succ m => rw [hq] at hg; simp at hg
    · intro e he q g hg
      exact h.ev e he q g hg
end Go.Proofs.Ytkifajabiggfmaa
end
section
set_option linter.unusedSimpArgs false
set_option linter.unusedVariables false
namespace Go.Proofs.Ytkifajabiggfmaa
set_option linter.unusedSimpArgs false
set_option linter.unusedVariables false
open Go.Bx
set_option maxRecDepth 10000
def amtsT (l : List Ls) (g : List Int) : List Int := g.map fun i => (l.getD i.toNat default).amt
theorem amts_snoc (l : List Ls) (g : List Int) (i : Int) : amtsT l (g ++ [i]) = amtsT l g ++ [(l.getD i.toNat default).amt] := by simp [amtsT]
def EvG (k : Nat) (s : EvS) : Prop := ∀ g, g ∈ s.G → ∀ i, i ∈ g → 0 ≤ i ∧ i < (k : Int)
theorem EvG.step {k : Nat} {s : EvS} (h : EvG k s) (hI : EvI k s) (t : Tr) (x : Ls) : EvG (k + 1) (evStep t (k : Int) x s) := by
  unfold evStep
  split
  · split
    · rename_i hc
      have hb := hI.kn x.ev
      have hlt : (s.kn x.ev - 1).toNat < s.G.length := by omega
      intro g hg i hi
      rcases List.mem_or_eq_of_mem_set hg with h1 | h1
      · have := h g h1 i hi; omega
      · subst h1
        rw [List.getD_eq_getElem?_getD, List.getElem?_eq_getElem hlt, Option.getD_some, List.mem_append] at hi
        rcases hi with hi | hi
        · have := h _ (List.getElem_mem hlt) i hi; omega
        · simp at hi; omega
    · intro g hg i hi
      rw [List.mem_append] at hg
      rcases hg with h1 | h1
      · have := h g h1 i hi; omega
      · simp at h1; subst h1; simp at hi; omega
  · intro g hg i hi
    have := h g hg i hi; omega
theorem evRun_ok (t : Tr) : ∀ (r : List Ls) (k : Nat) (s : EvS), EvI k s → EvG k s → EvI (k + r.length) (evRun t k r s) ∧ EvG (k + r.length) (evRun t k r s)
  | [], _, _, h, h' => ⟨h, h'⟩
  | x :: r, k, s, h, h' => by
    have := evRun_ok t r (k + 1) (evStep t (k : Int) x s) (h.step t x) (h'.step h t x)
    rw [List.length_cons, show k + (r.length + 1) = k + 1 + r.length by omega]
    exact this
theorem events_ok (t : Tr) (l : List Ls) : (eventsT t l).length ≤ l.length ∧ (∀ g, g ∈ eventsT t l → 1 ≤ g.length ∧ g.length ≤ l.length) ∧ ∀ g, g ∈ eventsT t l → ∀ i, i ∈ g → 0 ≤ i ∧ i < (l.length : Int) := by
  obtain ⟨h1, h2⟩ := evRun_ok t l 0 ⟨[], fun _ => 0⟩ ⟨fun n => by simp, Nat.le_refl _, fun g hg => by simp at hg⟩ (fun g hg => by simp at hg)
  rw [Nat.zero_add] at h1 h2
  exact ⟨h1.len, h1.each, h2⟩
end Go.Proofs.Ytkifajabiggfmaa
end
section
set_option linter.unusedSimpArgs false
set_option linter.unusedVariables false
namespace Go.Proofs.Ytkifajabiggfmaa
set_option linter.unusedSimpArgs false
set_option linter.unusedVariables false
open Go.Bx
set_option maxRecDepth 10000
theorem wU {a : Int} (h : 0 ≤ a ∧ a ≤ 18446744073709551615) : IntKind.u64.wrap a = a := by rw [IntKind.wrap_u64]; omega
def orU (a b : Int) : Int := IntKind.u64.wrap ((BitVec.ofInt IntKind.u64.bits a ||| BitVec.ofInt IntKind.u64.bits b).toNat : Int)
theorem orU_add (a i b : Nat) (h1 : a * 2 ^ i < 18446744073709551616) (h2 : b < 2 ^ i) (h3 : b < 18446744073709551616) : orU ((a * 2 ^ i : Nat) : Int) (b : Int) = ((a * 2 ^ i + b : Nat) : Int) := by
  have e0 : ∀ x : Nat, x < 18446744073709551616 → (BitVec.ofInt IntKind.u64.bits (x : Int)).toNat = x := fun x hx => by simp [IntKind.bits]; omega
  have h4 : (BitVec.ofInt IntKind.u64.bits ((a * 2 ^ i : Nat) : Int) ||| BitVec.ofInt IntKind.u64.bits (b : Int)).toNat = a * 2 ^ i + b := by
    rw [BitVec.toNat_or, e0 _ h1, e0 _ h3, ← Nat.shiftLeft_eq, Nat.shiftLeft_add_eq_or_of_lt h2]
  have h5 : a * 2 ^ i + b < 18446744073709551616 := by
    rw [← h4]; exact (BitVec.ofInt IntKind.u64.bits ((a * 2 ^ i : Nat) : Int) ||| BitVec.ofInt IntKind.u64.bits (b : Int)).isLt
  rw [orU, h4, wU (by omega)]
theorem fdiv_nat (a b : Nat) : (a : Int).fdiv (b : Int) = ((a / b : Nat) : Int) := by
  cases b with
  | zero => simp
  | succ b => rw [Int.fdiv_eq_ediv_of_nonneg _ (by omega)]; simp
theorem tdiv_nat (a b : Nat) : (a : Int).tdiv (b : Int) = ((a / b : Nat) : Int) := by
  rw [Int.tdiv_eq_ediv_of_nonneg (by omega)]; simp
theorem tmod_nat (a b : Nat) : (a : Int).tmod (b : Int) = ((a % b : Nat) : Int) := by
  rw [Int.tmod_eq_emod_of_nonneg (by omega)]; simp
def blen (x : Nat) : Nat := if x = 0 then 0 else Nat.log2 x + 1
theorem blen_eq {x n : Nat} (h1 : 2 ^ n ≤ x) (h2 : x < 2 ^ (n + 1)) : blen x = n + 1 := by
  have hx : x ≠ 0 := fun e => by have := Nat.two_pow_pos n; omega
  rw [blen, if_neg hx, (Nat.log2_eq_iff hx).2 ⟨h1, h2⟩]
theorem blen_spec {x : Nat} (h : x ≠ 0) : ∃ n, blen x = n + 1 ∧ 2 ^ n ≤ x ∧ x < 2 ^ (n + 1) :=
  ⟨Nat.log2 x, by rw [blen, if_neg h], ((Nat.log2_eq_iff h).1 rfl).1, ((Nat.log2_eq_iff h).1 rfl).2⟩
theorem blen_shift {x k : Nat} (h : 2 ^ k ≤ x) : blen x = blen (x / 2 ^ k) + k := by
  have h0 : 0 < x / 2 ^ k := Nat.div_pos h (Nat.two_pow_pos k)
  obtain ⟨n, h1, h2, h3⟩ := blen_spec (x := x / 2 ^ k) (by omega)
  rw [h1]
  have h4 : 2 ^ n * 2 ^ k ≤ x := (Nat.le_div_iff_mul_le (Nat.two_pow_pos k)).1 h2
  have h5 : x < 2 ^ (n + 1) * 2 ^ k := (Nat.div_lt_iff_lt_mul (Nat.two_pow_pos k)).1 h3
  rw [← Nat.pow_add] at h4 h5
  rw [blen_eq (n := n + k) h4 (by rw [show n + k + 1 = n + 1 + k by omega]; exact h5)]
  omega
theorem wUn (n : Nat) : IntKind.u64.wrap (n : Int) = ((n % 18446744073709551616 : Nat) : Int) := by rw [IntKind.wrap_u64]; omega
theorem andN (x : Nat) : (BitVec.ofInt IntKind.u64.bits (x : Int) &&& BitVec.ofInt IntKind.u64.bits 4294967295).toNat = x % 4294967296 := by
  rw [BitVec.toNat_and]
  have e1 : (BitVec.ofInt IntKind.u64.bits (x : Int)).toNat = x % 18446744073709551616 := by
    simp [IntKind.bits]
  have e2 : (BitVec.ofInt IntKind.u64.bits 4294967295).toNat = 2 ^ 32 - 1 := by decide +kernel
  rw [e1, e2, Nat.and_two_pow_sub_one_eq_mod]; omega
theorem p32 : (2 : Int) ^ min 32 IntKind.u64.bits = 4294967296 := by decide +kernel
theorem fdivL (n : Nat) : (n : Int).fdiv 4294967296 = ((n / 4294967296 : Nat) : Int) := fdiv_nat n 4294967296
theorem p16 : (2 : Int) ^ min 16 IntKind.u64.bits = 65536 := by decide +kernel
theorem p8 : (2 : Int) ^ min 8 IntKind.u64.bits = 256 := by decide +kernel
theorem fdivM (n : Nat) : (n : Int).fdiv 65536 = ((n / 65536 : Nat) : Int) := fdiv_nat n 65536
theorem fdivS (n : Nat) : (n : Int).fdiv 256 = ((n / 256 : Nat) : Int) := fdiv_nat n 256
theorem sMul64 (x y : Nat) (hx : x < 18446744073709551616) (hy : y < 18446744073709551616) : Ctr Try.prog 70 [.d (.int .u64 x), .d (.int .u64 y)] [] (.tup [.d (.int .u64 ((x * y / 18446744073709551616 : Nat) : Int)), .d (.int .u64 ((x * y % 18446744073709551616 : Nat) : Int))]) [] [] := by
  refine ctr_pure Try.func70 ok70 rfl cc70 cr70 Try.ntmps70 (by simp) rfl rfl ?_; intro c hP hfn; simp only [kc70, andN, p32, fdivL, ← Int.natCast_mul, ← Int.natCast_add, wUn, vcb, ↓evSo_some, ↓reduceIte, reduceCtorEq, seval]
  have hm := Go.Lib.mul64_hi x y hx hy
  have ha := Go.Lib.half_mul_le (a := x / 4294967296) (b := y / 4294967296) (by omega) (by omega)
  have hb := Go.Lib.half_mul_le (a := x / 4294967296) (b := y % 4294967296) (by omega) (by omega)
  have hc := Go.Lib.half_mul_le (a := x % 4294967296) (b := y / 4294967296) (by omega) (by omega)
  have hd := Go.Lib.half_mul_le (a := x % 4294967296) (b := y % 4294967296) (by omega) (by omega)
  (refine RetK.pure (by simp only [rs70, rsb, vcb, ↓evSo_some, ↓reduceIte, reduceCtorEq, seval]) (VLe.tups ?_); simp only [rs70, rsb, vcb, ↓evSo_some, ↓reduceIte, reduceCtorEq, seval])
  refine ⟨VLe.int (congrArg Int.ofNat ?_), VLe.int rfl, trivial⟩
  have e1 : x % 4294967296 % 18446744073709551616 = x % 4294967296 := by omega
  have e2 : y % 4294967296 % 18446744073709551616 = y % 4294967296 := by omega
  rw [e1, e2]
  generalize (x / 4294967296) * (y / 4294967296) = a at *
  generalize (x / 4294967296) * (y % 4294967296) = b at *
  generalize (x % 4294967296) * (y / 4294967296) = c at *
  generalize (x % 4294967296) * (y % 4294967296) = d at *
  generalize x * y / 18446744073709551616 = z at *
  omega
def tab : ByteArray := ⟨#[0, 1, 2, 2, 3, 3, 3, 3, 4, 4, 4, 4, 4, 4, 4, 4, 5, 5, 5, 5, 5, 5, 5, 5, 5, 5, 5, 5, 5, 5, 5, 5, 6, 6, 6, 6, 6, 6, 6, 6, 6, 6, 6, 6, 6, 6, 6, 6, 6, 6, 6, 6, 6, 6, 6, 6, 6, 6, 6, 6, 6, 6, 6, 6, 7, 7, 7, 7, 7, 7, 7, 7, 7, 7, 7, 7, 7, 7, 7, 7, 7, 7, 7, 7, 7, 7, 7, 7, 7, 7, 7, 7, 7, 7, 7, 7, 7, 7, 7, 7, 7, 7, 7, 7, 7, 7, 7, 7, 7, 7, 7, 7, 7, 7, 7, 7, 7, 7, 7, 7, 7, 7, 7, 7, 7, 7, 7, 7, 8, 8, 8, 8, 8, 8, 8, 8, 8, 8, 8, 8, 8, 8, 8, 8, 8, 8, 8, 8, 8, 8, 8, 8, 8, 8, 8, 8, 8, 8, 8, 8, 8, 8, 8, 8, 8, 8, 8, 8, 8, 8, 8, 8, 8, 8, 8, 8, 8, 8, 8, 8, 8, 8, 8, 8, 8, 8, 8, 8, 8, 8, 8, 8, 8, 8, 8, 8, 8, 8, 8, 8, 8, 8, 8, 8, 8, 8, 8, 8, 8, 8, 8, 8, 8, 8, 8, 8, 8, 8, 8, 8, 8, 8, 8, 8, 8, 8, 8, 8, 8, 8, 8, 8, 8, 8, 8, 8, 8, 8, 8, 8, 8, 8, 8, 8, 8, 8, 8, 8, 8, 8, 8, 8, 8, 8, 8, 8]⟩
theorem tab_ok : ∀ z : Nat, z < 256 → sAt tab z = ((blen z : Nat) : Int) := by
  have h : ((List.range 256).all fun z => sAt tab z == ((blen z : Nat) : Int)) = true := by decide +kernel
  intro z hz
  exact eq_of_beq (List.all_eq_true.1 h z (by simpa using hz))
theorem u8n {z : Nat} (h : z < 256) : IntKind.u8.wrap (z : Int) = (z : Int) := by rw [IntKind.wrap_u8]; omega
theorem blen_256 {z : Nat} (h : z < 256) : blen z ≤ 8 := by
  by_cases h0 : z = 0
  · subst h0; simp [blen]
  · obtain ⟨n, h1, h2, h3⟩ := blen_spec h0
    rw [h1]
    have : n < 8 := (Nat.pow_lt_pow_iff_right (show 1 < 2 by omega)).1 (show 2 ^ n < 2 ^ 8 by omega)
    omega
theorem sLen64 (x : Nat) (hx : x < 18446744073709551616) : Ctr Try.prog 73 [.d (.int .u64 x)] [] (.d (.int .i64 ((blen x : Nat) : Int))) [] [] := by
  refine ctr_pure Try.func73 ok73 rfl cc73 cr73 Try.ntmps73 (by simp) rfl rfl ?_; intro c hP hfn; simp only [kc73, p32, p16, p8, fdivL, fdivM, fdivS, ← Int.natCast_mul, ← Int.natCast_add, wUn, vcb, ↓evSo_some, ↓reduceIte, reduceCtorEq, seval]
  repeat' first
      | refine And.intro (fun h => ?_) (fun h => ?_)
      | refine And.intro (by first | omega | (simp only [maxLen, decide_eq_true_eq, decide_eq_false_iff_not] at *; omega)) ?_
      | (refine TR.aslO rfl rfl rfl rfl trivial (Nat.le_of_ble_eq_true rfl) ?_
         try simp only [p32, p16, p8, fdivL, fdivM, fdivS, ← Int.natCast_mul, ← Int.natCast_add, wUn, vcb, ↓evSo_some, ↓reduceIte, reduceCtorEq, seval])
      | refine And.intro trivial ?_
      | refine And.intro rfl ?_
      | fail
  · simp only [ge_iff_le, decide_eq_true_eq, decide_eq_false_iff_not, Int.not_le] at *
    have hz : x / 4294967296 / 65536 / 256 < 256 := by omega
    have q32 := blen_shift (x := x) (k := 32) (by omega)
    rw [show (2 : Nat) ^ 32 = 4294967296 from rfl] at q32
    have q16 := blen_shift (x := x / 4294967296) (k := 16) (by omega)
    rw [show (2 : Nat) ^ 16 = 65536 from rfl] at q16
    have q8 := blen_shift (x := x / 4294967296 / 65536) (k := 8) (by omega)
    rw [show (2 : Nat) ^ 8 = 256 from rfl] at q8
    have e := u8n hz
    have et := tab_ok _ hz
    have hb := blen_256 hz
    rw [e]
    refine And.intro ⟨by omega, (show (((x / 4294967296 / 65536 / 256 : Nat) : Int) < 256) by omega)⟩ ?_
    exact RetK.pure (by simp only [rs73, rsb, vcb, ↓evSo_some, ↓reduceIte, reduceCtorEq, seval]) (by (simp only [rs73, rsb, vcb, ↓evSo_some, ↓reduceIte, reduceCtorEq, seval, enb, vcb, ↓evSo_some, ↓reduceIte, reduceCtorEq, seval]) <;> (first | (change IntKind.i64.wrap (_ + IntKind.i64.wrap (sAt tab (x / 4294967296 / 65536 / 256))) = _; rw [et, wI (a := ((blen (x / 4294967296 / 65536 / 256) : Nat) : Int)) (by omega)]; rw [q32, q16, q8]; generalize blen (x / 4294967296 / 65536 / 256) = w at *; simp only [IntKind.wrap_i64]; omega)))
  · simp only [ge_iff_le, decide_eq_true_eq, decide_eq_false_iff_not, Int.not_le] at *
    have hz : x / 4294967296 / 65536 < 256 := by omega
    have q32 := blen_shift (x := x) (k := 32) (by omega)
    rw [show (2 : Nat) ^ 32 = 4294967296 from rfl] at q32
    have q16 := blen_shift (x := x / 4294967296) (k := 16) (by omega)
    rw [show (2 : Nat) ^ 16 = 65536 from rfl] at q16
    have e := u8n hz
    have et := tab_ok _ hz
    have hb := blen_256 hz
    rw [e]
    refine And.intro ⟨by omega, (show (((x / 4294967296 / 65536 : Nat) : Int) < 256) by omega)⟩ ?_
    exact RetK.pure (by simp only [rs73, rsb, vcb, ↓evSo_some, ↓reduceIte, reduceCtorEq, seval]) (by (simp only [rs73, rsb, vcb, ↓evSo_some, ↓reduceIte, reduceCtorEq, seval, enb, vcb, ↓evSo_some, ↓reduceIte, reduceCtorEq, seval]) <;> (first | (change IntKind.i64.wrap (_ + IntKind.i64.wrap (sAt tab (x / 4294967296 / 65536))) = _; rw [et, wI (a := ((blen (x / 4294967296 / 65536) : Nat) : Int)) (by omega)]; rw [q32, q16]; generalize blen (x / 4294967296 / 65536) = w at *; simp only [IntKind.wrap_i64]; omega)))
  · simp only [ge_iff_le, decide_eq_true_eq, decide_eq_false_iff_not, Int.not_le] at *
    have hz : x / 4294967296 / 256 < 256 := by omega
    have q32 := blen_shift (x := x) (k := 32) (by omega)
    rw [show (2 : Nat) ^ 32 = 4294967296 from rfl] at q32
    have q8 := blen_shift (x := x / 4294967296) (k := 8) (by omega)
    rw [show (2 : Nat) ^ 8 = 256 from rfl] at q8
    have e := u8n hz
    have et := tab_ok _ hz
    have hb := blen_256 hz
    rw [e]
    refine And.intro ⟨by omega, (show (((x / 4294967296 / 256 : Nat) : Int) < 256) by omega)⟩ ?_
    exact RetK.pure (by simp only [rs73, rsb, vcb, ↓evSo_some, ↓reduceIte, reduceCtorEq, seval]) (by (simp only [rs73, rsb, vcb, ↓evSo_some, ↓reduceIte, reduceCtorEq, seval, enb, vcb, ↓evSo_some, ↓reduceIte, reduceCtorEq, seval]) <;> (first | (change IntKind.i64.wrap (_ + IntKind.i64.wrap (sAt tab (x / 4294967296 / 256))) = _; rw [et, wI (a := ((blen (x / 4294967296 / 256) : Nat) : Int)) (by omega)]; rw [q32, q8]; generalize blen (x / 4294967296 / 256) = w at *; simp only [IntKind.wrap_i64]; omega)))
  · simp only [ge_iff_le, decide_eq_true_eq, decide_eq_false_iff_not, Int.not_le] at *
    have hz : x / 4294967296 < 256 := by omega
    have q32 := blen_shift (x := x) (k := 32) (by omega)
    rw [show (2 : Nat) ^ 32 = 4294967296 from rfl] at q32
    have e := u8n hz
    have et := tab_ok _ hz
    have hb := blen_256 hz
    rw [e]
    refine And.intro ⟨by omega, (show (((x / 4294967296 : Nat) : Int) < 256) by omega)⟩ ?_
    exact RetK.pure (by simp only [rs73, rsb, vcb, ↓evSo_some, ↓reduceIte, reduceCtorEq, seval]) (by (simp only [rs73, rsb, vcb, ↓evSo_some, ↓reduceIte, reduceCtorEq, seval, enb, vcb, ↓evSo_some, ↓reduceIte, reduceCtorEq, seval]) <;> (first | (change IntKind.i64.wrap (_ + IntKind.i64.wrap (sAt tab (x / 4294967296))) = _; rw [et, wI (a := ((blen (x / 4294967296) : Nat) : Int)) (by omega)]; rw [q32]; generalize blen (x / 4294967296) = w at *; simp only [IntKind.wrap_i64]; omega)))
  · simp only [ge_iff_le, decide_eq_true_eq, decide_eq_false_iff_not, Int.not_le] at *
    have hz : x / 65536 / 256 < 256 := by omega
    have q16 := blen_shift (x := x) (k := 16) (by omega)
    rw [show (2 : Nat) ^ 16 = 65536 from rfl] at q16
    have q8 := blen_shift (x := x / 65536) (k := 8) (by omega)
    rw [show (2 : Nat) ^ 8 = 256 from rfl] at q8
    have e := u8n hz
    have et := tab_ok _ hz
    have hb := blen_256 hz
    rw [e]
    refine And.intro ⟨by omega, (show (((x / 65536 / 256 : Nat) : Int) < 256) by omega)⟩ ?_
    exact RetK.pure (by simp only [rs73, rsb, vcb, ↓evSo_some, ↓reduceIte, reduceCtorEq, seval]) (by (simp only [rs73, rsb, vcb, ↓evSo_some, ↓reduceIte, reduceCtorEq, seval, enb, vcb, ↓evSo_some, ↓reduceIte, reduceCtorEq, seval]) <;> (first | (change IntKind.i64.wrap (_ + IntKind.i64.wrap (sAt tab (x / 65536 / 256))) = _; rw [et, wI (a := ((blen (x / 65536 / 256) : Nat) : Int)) (by omega)]; rw [q16, q8]; generalize blen (x / 65536 / 256) = w at *; simp only [IntKind.wrap_i64]; omega)))
  · simp only [ge_iff_le, decide_eq_true_eq, decide_eq_false_iff_not, Int.not_le] at *
    have hz : x / 65536 < 256 := by omega
    have q16 := blen_shift (x := x) (k := 16) (by omega)
    rw [show (2 : Nat) ^ 16 = 65536 from rfl] at q16
    have e := u8n hz
    have et := tab_ok _ hz
    have hb := blen_256 hz
    rw [e]
    refine And.intro ⟨by omega, (show (((x / 65536 : Nat) : Int) < 256) by omega)⟩ ?_
    exact RetK.pure (by simp only [rs73, rsb, vcb, ↓evSo_some, ↓reduceIte, reduceCtorEq, seval]) (by (simp only [rs73, rsb, vcb, ↓evSo_some, ↓reduceIte, reduceCtorEq, seval, enb, vcb, ↓evSo_some, ↓reduceIte, reduceCtorEq, seval]) <;> (first | (change IntKind.i64.wrap (_ + IntKind.i64.wrap (sAt tab (x / 65536))) = _; rw [et, wI (a := ((blen (x / 65536) : Nat) : Int)) (by omega)]; rw [q16]; generalize blen (x / 65536) = w at *; simp only [IntKind.wrap_i64]; omega)))
  · simp only [ge_iff_le, decide_eq_true_eq, decide_eq_false_iff_not, Int.not_le] at *
    have hz : x / 256 < 256 := by omega
    have q8 := blen_shift (x := x) (k := 8) (by omega)
    rw [show (2 : Nat) ^ 8 = 256 from rfl] at q8
    have e := u8n hz
    have et := tab_ok _ hz
    have hb := blen_256 hz
    rw [e]
    refine And.intro ⟨by omega, (show (((x / 256 : Nat) : Int) < 256) by omega)⟩ ?_
    exact RetK.pure (by simp only [rs73, rsb, vcb, ↓evSo_some, ↓reduceIte, reduceCtorEq, seval]) (by (simp only [rs73, rsb, vcb, ↓evSo_some, ↓reduceIte, reduceCtorEq, seval, enb, vcb, ↓evSo_some, ↓reduceIte, reduceCtorEq, seval]) <;> (first | (change IntKind.i64.wrap (_ + IntKind.i64.wrap (sAt tab (x / 256))) = _; rw [et, wI (a := ((blen (x / 256) : Nat) : Int)) (by omega)]; rw [q8]; generalize blen (x / 256) = w at *; simp only [IntKind.wrap_i64]; omega)))
  · simp only [ge_iff_le, decide_eq_true_eq, decide_eq_false_iff_not, Int.not_le] at *
    have hz : x < 256 := by omega
    have e := u8n hz
    have et := tab_ok _ hz
    have hb := blen_256 hz
    rw [e]
    refine And.intro ⟨by omega, (show (((x : Nat) : Int) < 256) by omega)⟩ ?_
    exact RetK.pure (by simp only [rs73, rsb, vcb, ↓evSo_some, ↓reduceIte, reduceCtorEq, seval]) (by (simp only [rs73, rsb, vcb, ↓evSo_some, ↓reduceIte, reduceCtorEq, seval, enb, vcb, ↓evSo_some, ↓reduceIte, reduceCtorEq, seval]) <;> (first | (change IntKind.i64.wrap (_ + IntKind.i64.wrap (sAt tab (x))) = _; rw [et, wI (a := ((blen (x) : Nat) : Int)) (by omega)]; generalize blen (x) = w at *; simp only [IntKind.wrap_i64]; omega)))
theorem sLZ (x : Nat) (hx : x < 18446744073709551616) : Ctr Try.prog 72 [.d (.int .u64 x)] [] (.d (.int .i64 ((64 - blen x : Nat) : Int))) [] [] := by
  have hb : blen x ≤ 64 := by
    by_cases h0 : x = 0
    · subst h0; simp [blen]
    · obtain ⟨n, h1, h2, h3⟩ := blen_spec h0
      rw [h1]
      have : n < 64 := (Nat.pow_lt_pow_iff_right (show 1 < 2 by omega)).1 (show 2 ^ n < 2 ^ 64 by omega)
      omega
  refine ctr_pure Try.func72 ok72 rfl cc72 cr72 Try.ntmps72 (by simp) rfl rfl ?_; intro c hP hfn; simp only [kc72, vcb, ↓evSo_some, ↓reduceIte, reduceCtorEq, seval]
  repeat' first
      | (first
          | refine TR.p hP (by first | exact sLen64 x hx) (by repeat' first | exact trivial | (intro _; assumption) | apply And.intro) ?_
          | refine TR.gp hP rfl (fun _ => by first | exact sLen64 x hx) (fun _ => by repeat' first | exact trivial | (intro _; assumption) | apply And.intro) ?_
          | refine TR.pv hP rfl (by first | exact sLen64 x hx) trivial (by repeat' first | exact trivial | (intro _; assumption) | apply And.intro) ?_
         try simp only [vcb, ↓evSo_some, ↓reduceIte, reduceCtorEq, seval])
      | refine And.intro (fun h => ?_) (fun h => ?_)
      | refine And.intro (by first | omega | (simp only [maxLen, decide_eq_true_eq, decide_eq_false_iff_not] at *; omega)) ?_
      | (refine TR.aslO rfl rfl rfl rfl trivial (Nat.le_of_ble_eq_true rfl) ?_
         try simp only [vcb, ↓evSo_some, ↓reduceIte, reduceCtorEq, seval])
      | refine And.intro trivial ?_
      | refine And.intro rfl ?_
      | fail
  exact RetK.pure (by simp only [rs72, rsb, vcb, ↓evSo_some, ↓reduceIte, reduceCtorEq, seval]) (by (simp only [rs72, rsb, vcb, ↓evSo_some, ↓reduceIte, reduceCtorEq, seval, enb, vcb, ↓evSo_some, ↓reduceIte, reduceCtorEq, seval]) <;> (first | (rw [wI (by omega)]; omega)))
theorem kn_dec {u d v v1 v0 q r : Nat} (hv : v = v1 * 4294967296 + v0) (hu : u < v) (hd : d < 4294967296) (e : u = q * v1 + r) (hc : 4294967296 ≤ q ∨ 4294967296 * r + d < q * v0) : (u * 4294967296 + d) / v < q := by
  rw [Nat.div_lt_iff_lt_mul (by omega)]
  rcases hc with h | h
  · have h1 : 4294967296 * v ≤ q * v := Nat.mul_le_mul_right _ h
    omega
  · have h1 : q * v = q * v1 * 4294967296 + q * v0 := by rw [hv, Nat.mul_add, Nat.mul_assoc]
    omega
theorem kn_le {u d v v1 v0 q r : Nat} (hv : v = v1 * 4294967296 + v0) (h0 : 0 < v) (e : u = q * v1 + r) (h : q * v0 ≤ 4294967296 * r + d) : q ≤ (u * 4294967296 + d) / v := by
  rw [Nat.le_div_iff_mul_le h0]
  have h1 : q * v = q * v1 * 4294967296 + q * v0 := by rw [hv, Nat.mul_add, Nat.mul_assoc]
  omega
theorem kn_lo {u d v v1 v0 : Nat} (hv : v = v1 * 4294967296 + v0) (h1 : 0 < v1) (hd : d < 4294967296) : (u * 4294967296 + d) / v ≤ u / v1 := by
  rw [Nat.le_div_iff_mul_le h1]
  have h2 := Nat.div_mul_le_self (u * 4294967296 + d) v
  generalize (u * 4294967296 + d) / v = X at *
  have h3 : X * v = X * v1 * 4294967296 + X * v0 := by rw [hv, Nat.mul_add, Nat.mul_assoc]
  generalize X * v1 = a at *
  omega
theorem kn_start {u v v1 v0 : Nat} (hv : v = v1 * 4294967296 + v0) (h1 : 2147483648 ≤ v1) (h0 : v0 < 4294967296) (hu : u < v) : u / v1 ≤ 4294967297 := by
  have : u / v1 < 4294967298 := by
    rw [Nat.div_lt_iff_lt_mul (by omega)]
    omega
  omega
theorem kn_brk {u d v v1 v0 q r : Nat} (hv : v = v1 * 4294967296 + v0) (h0 : v0 < 4294967296) (hv0 : 0 < v) (e : u = q * v1 + r) (hq : q ≤ 4294967296) (hr : 4294967296 ≤ r) : q ≤ (u * 4294967296 + d) / v := by
  refine kn_le hv hv0 e ?_
  have : q * v0 ≤ 4294967296 * v0 := Nat.mul_le_mul_right _ hq
  omega
theorem kn_join {u d d0 t p q w z : Nat} (h1 : u * 4294967296 + d = p + w) (h2 : w * 4294967296 + d0 = q + z) (ht : t = d * 4294967296 + d0) : u * 18446744073709551616 + t = p * 4294967296 + q + z := by
  rw [ht, show (18446744073709551616 : Nat) = 4294967296 * 4294967296 from rfl, ← Nat.mul_assoc, ← Nat.add_assoc, ← Nat.add_mul, h1, Nat.add_mul, Nat.add_assoc, h2, Nat.add_assoc]
theorem g1 (u v1 : Nat) (hu : u < 18446744073709551616) : IntKind.u64.wrap ((u / v1 : Nat) : Int) = ((u / v1 : Nat) : Int) := by
  rw [wUn, Nat.mod_eq_of_lt (Nat.lt_of_le_of_lt (Nat.div_le_self u v1) hu)]
theorem g2 (u v1 : Nat) (hu : u < 18446744073709551616) : IntKind.u64.wrap (((u / v1 : Nat) : Int) * (v1 : Int)) = ((u / v1 * v1 : Nat) : Int) := by
  have := Nat.div_mul_le_self u v1
  rw [← Int.natCast_mul, wU (by omega)]
theorem g3 (u v1 : Nat) (hu : u < 18446744073709551616) : IntKind.u64.wrap ((u : Int) - ((u / v1 * v1 : Nat) : Int)) = ((u % v1 : Nat) : Int) := by
  have h1 := Nat.div_mul_le_self u v1
  have h2 := Nat.div_add_mod' u v1
  have : u % v1 ≤ u := Nat.mod_le u v1
  exact (wU (by omega)).trans (by omega)
theorem g4 (u d v q w : Nat) (hw : w < 18446744073709551616) (e : u * 4294967296 + d = q * v + w) :
    IntKind.u64.wrap (IntKind.u64.wrap (IntKind.u64.wrap ((u : Int) * 4294967296) + (d : Int)) - IntKind.u64.wrap ((q : Int) * (v : Int))) = (w : Int) := by
  rw [← Int.natCast_mul]
  generalize q * v = p at *
  simp only [IntKind.wrap_u64]
  omega
theorem gm (x : Nat) : IntKind.u64.wrap ((x % 4294967296 : Nat) : Int) = ((x % 4294967296 : Nat) : Int) := by rw [wU (by omega)]
structure KnI (u d v v1 v0 q r : Nat) : Prop where
  lo : (u * 4294967296 + d) / v ≤ q
  hi : q ≤ 4294967297
  e : u = q * v1 + r
  r : r < 4294967296
theorem kn_cond {d v0 q r : Nat} (hd : d < 4294967296) (h0 : v0 < 4294967296) (hr : r < 4294967296) :
    ((decide ((q : Int) ≥ 4294967296) || decide (IntKind.u64.wrap ((q : Int) * (v0 : Int)) > IntKind.u64.wrap (IntKind.u64.wrap (4294967296 * (r : Int)) + (d : Int)))) = true) ↔ (4294967296 ≤ q ∨ 4294967296 * r + d < q * v0) := by
  by_cases hq : 4294967296 ≤ q
  · have : (q : Int) ≥ 4294967296 := by omega
    simp [this, hq]
  · have h1 : q * v0 ≤ 4294967295 * 4294967295 := Nat.mul_le_mul (by omega) (by omega)
    have h2 : ¬ ((q : Int) ≥ 4294967296) := by omega
    rw [← Int.natCast_mul, wU (a := ((q * v0 : Nat) : Int)) (by omega), wU (a := 4294967296 * (r : Int)) (by omega), wU (by omega)]
    simp only [h2, decide_false, Bool.false_or, decide_eq_true_eq, hq, false_or]
    omega
theorem sDiv64 (hi lo y : Nat) (hh : hi < y) (hl : lo < 18446744073709551616) (hy : y < 18446744073709551616) : Ctr Try.prog 71 [.d (.int .u64 hi), .d (.int .u64 lo), .d (.int .u64 y)] []
    (.tup [.d (.int .u64 (((hi * 18446744073709551616 + lo) / y : Nat) : Int)), .d (.int .u64 (((hi * 18446744073709551616 + lo) % y : Nat) : Int))]) [] [] := by
  obtain ⟨n, b1, b2, b3⟩ := blen_spec (x := y) (by omega)
  have hn : n < 64 := (Nat.pow_lt_pow_iff_right (show 1 < 2 by omega)).1 (show 2 ^ n < 2 ^ 64 by omega)
  have hs : 64 - blen y = 63 - n := by omega
  have lz := sLZ y hy
  rw [hs] at lz
  obtain ⟨sh, hsd⟩ : ∃ sh, 63 - n = sh := ⟨_, rfl⟩
  rw [hsd] at lz
  obtain ⟨P, hP2⟩ : ∃ P, 2 ^ sh = P := ⟨_, rfl⟩
  obtain ⟨Q, hQ2⟩ : ∃ Q, 2 ^ (64 - sh) = Q := ⟨_, rfl⟩
  have hP0 : 0 < P := hP2 ▸ Nat.two_pow_pos sh
  have hQ0 : 0 < Q := hQ2 ▸ Nat.two_pow_pos _
  have hPQ : Q * P = 18446744073709551616 := by
    rw [← hP2, ← hQ2, ← Nat.pow_add, show 64 - sh + sh = 64 by omega]
  obtain ⟨v, hv⟩ : ∃ v, y * P = v := ⟨_, rfl⟩
  have v63 : 9223372036854775808 ≤ v := by
    have h1 : 2 ^ n * P ≤ y * P := Nat.mul_le_mul_right _ b2
    rw [← hP2, ← Nat.pow_add, show n + sh = 63 by omega, hP2, hv] at h1
    exact h1
  have v64 : v < 18446744073709551616 := by
    have h1 : y * P < 2 ^ (n + 1) * P := Nat.mul_lt_mul_of_pos_right b3 hP0
    rw [← hP2, ← Nat.pow_add, show n + 1 + sh = 64 by omega, hP2, hv] at h1
    exact h1
  obtain ⟨g, hg⟩ : ∃ g, lo / Q = g := ⟨_, rfl⟩
  obtain ⟨t, ht⟩ : ∃ t, lo * P % 18446744073709551616 = t := ⟨_, rfl⟩
  have hgP : g < P := by
    rw [← hg, Nat.div_lt_iff_lt_mul hQ0, Nat.mul_comm, hPQ]; exact hl
  have hlo : lo * P = g * 18446744073709551616 + t := by
    have h1 := Nat.div_add_mod (lo * P) 18446744073709551616
    have h2 : lo * P / 18446744073709551616 = g := by rw [← hPQ, Nat.mul_div_mul_right _ _ hP0, hg]
    rw [h2, ht] at h1; omega
  obtain ⟨u, hu⟩ : ∃ u, hi * P + g = u := ⟨_, rfl⟩
  have ht64 : t < 18446744073709551616 := by rw [← ht]; exact Nat.mod_lt _ (by omega)
  have hN : (hi * 18446744073709551616 + lo) * P = u * 18446744073709551616 + t := by
    rw [Nat.add_mul, hlo, ← hu, Nat.mul_right_comm]; omega
  have huv : u < v := by
    have h1 : (hi * 18446744073709551616 + lo) < y * 18446744073709551616 := by omega
    have h2 : (hi * 18446744073709551616 + lo) * P < y * 18446744073709551616 * P := Nat.mul_lt_mul_of_pos_right h1 hP0
    rw [hN, Nat.mul_right_comm, hv] at h2
    omega
  have hhP : hi * P < 18446744073709551616 := by omega
  have e1 : IntKind.u64.wrap (sh : Int) = (sh : Int) := wU (by omega)
  have e2 : (2 : Int) ^ min sh IntKind.u64.bits = (P : Int) := by
    rw [show min sh IntKind.u64.bits = sh from Nat.min_eq_left (show sh ≤ 64 by omega), ← hP2]; simp
  have e3 : IntKind.u64.wrap ((y : Int) * (P : Int)) = (v : Int) := by rw [← Int.natCast_mul, hv, wU (by omega)]
  have e4 : IntKind.u64.wrap ((hi : Int) * (P : Int)) = ((hi * P : Nat) : Int) := by rw [← Int.natCast_mul]; exact wU (by omega)
  have e5 : IntKind.u64.wrap (64 - (sh : Int)) = ((64 - sh : Nat) : Int) := (wU (by omega)).trans (by omega)
  have e6 : (2 : Int) ^ min (64 - sh) IntKind.u64.bits = (Q : Int) := by
    rw [show min (64 - sh) IntKind.u64.bits = 64 - sh from Nat.min_eq_left (show 64 - sh ≤ 64 by omega), ← hQ2]; simp
  have e7 : (lo : Int).fdiv (Q : Int) = (g : Int) := by rw [fdiv_nat, hg]
  have e8 : IntKind.u64.wrap ((BitVec.ofInt IntKind.u64.bits ((hi * P : Nat) : Int) ||| BitVec.ofInt IntKind.u64.bits (g : Int)).toNat : Int) = (u : Int) := by
    have := orU_add hi sh g (by rw [hP2]; omega) (by rw [hP2]; omega) (by omega)
    rw [hP2, hu] at this
    exact this
  have e9 : IntKind.u64.wrap ((lo : Int) * (P : Int)) = (t : Int) := by rw [← Int.natCast_mul, wUn, ht]
  refine ctr_pure Try.func71 ok71 rfl cc71 cr71 Try.ntmps71 (by simp) rfl rfl ?_; intro c hP hfn; simp only [kc71, vcb, ↓evSo_some, ↓reduceIte, reduceCtorEq, seval]
  refine ⟨fun h => ?_, fun h => ?_⟩
  · exfalso; simp at h; omega
  refine ⟨fun h2 => ?_, fun h2 => ?_⟩
  · exfalso; simp at h2; omega
  refine ⟨fun h3 => ?_, fun h3 => ?_⟩
  · have h0 : hi = 0 := by simpa using h3
    subst h0
    repeat' first
        | refine And.intro (fun h => ?_) (fun h => ?_)
        | refine And.intro (by first | omega | (simp only [maxLen, decide_eq_true_eq, decide_eq_false_iff_not] at *; omega)) ?_
        | (refine TR.aslO rfl rfl rfl rfl trivial (Nat.le_of_ble_eq_true rfl) ?_
           try simp only [vcb, ↓evSo_some, ↓reduceIte, reduceCtorEq, seval])
        | refine And.intro trivial ?_
        | refine And.intro rfl ?_
        | fail
    (refine RetK.pure (by simp only [rs71, rsb, vcb, ↓evSo_some, ↓reduceIte, reduceCtorEq, seval]) (VLe.tups ?_); simp only [rs71, rsb, vcb, ↓evSo_some, ↓reduceIte, reduceCtorEq, seval])
    refine ⟨VLe.int ?_, VLe.int ?_, trivial⟩
    · simp only [tdiv_nat, g1 _ _ hl, Nat.zero_mul, Nat.zero_add]
    · simp only [tmod_nat, Nat.zero_mul, Nat.zero_add]
  have hv1 : v = v / 4294967296 * 4294967296 + v % 4294967296 := by omega
  have hv1b : 2147483648 ≤ v / 4294967296 := by omega
  have hv0 : v % 4294967296 < 4294967296 := by omega
  obtain ⟨v1, hv1d⟩ : ∃ v1, v / 4294967296 = v1 := ⟨_, rfl⟩
  obtain ⟨v0, hv0d⟩ : ∃ v0, v % 4294967296 = v0 := ⟨_, rfl⟩
  obtain ⟨d, hdd⟩ : ∃ d, t / 4294967296 = d := ⟨_, rfl⟩
  obtain ⟨d0, hd0d⟩ : ∃ d0, t % 4294967296 = d0 := ⟨_, rfl⟩
  have hd : d < 4294967296 := by omega
  have hd0 : d0 < 4294967296 := by omega
  have f1 : (v : Int).fdiv 4294967296 = (v1 : Int) := by rw [fdivL, hv1d]
  have f2 : (t : Int).fdiv 4294967296 = (d : Int) := by rw [fdivL, hdd]
  have f3 : IntKind.u64.wrap ((BitVec.ofInt IntKind.u64.bits (v : Int) &&& BitVec.ofInt IntKind.u64.bits 4294967295).toNat : Int) = (v0 : Int) := by rw [andN, gm, hv0d]
  have f4 : IntKind.u64.wrap ((BitVec.ofInt IntKind.u64.bits (t : Int) &&& BitVec.ofInt IntKind.u64.bits 4294967295).toNat : Int) = (d0 : Int) := by rw [andN, gm, hd0d]
  rw [hv1d, hv0d] at hv1
  rw [hv1d] at hv1b
  rw [hv0d] at hv0
  have hu64 : u < 18446744073709551616 := by omega
  have f5 : IntKind.u64.wrap ((u : Int).tdiv (v1 : Int)) = ((u / v1 : Nat) : Int) := by rw [tdiv_nat, g1 _ _ hu64]
  have hdiv : ∀ q r, KnI u d v v1 v0 q r → (4294967296 ≤ q ∨ 4294967296 * r + d < q * v0) → (u * 4294967296 + d) / v + 1 ≤ q := fun q r h hc => kn_dec hv1 huv hd h.e hc
  obtain ⟨q1, hq1⟩ : ∃ q1, (u * 4294967296 + d) / v = q1 := ⟨_, rfl⟩
  obtain ⟨w, hw⟩ : ∃ w, (u * 4294967296 + d) % v = w := ⟨_, rfl⟩
  have hwv : w < v := by rw [← hw]; exact Nat.mod_lt _ (by omega)
  have hqw : u * 4294967296 + d = q1 * v + w := by
    have := Nat.div_add_mod' (u * 4294967296 + d) v
    rw [hq1, hw] at this; exact this.symm
  obtain ⟨q0, hq0⟩ : ∃ q0, (w * 4294967296 + d0) / v = q0 := ⟨_, rfl⟩
  obtain ⟨z, hz⟩ : ∃ z, (w * 4294967296 + d0) % v = z := ⟨_, rfl⟩
  have hzv : z < v := by rw [← hz]; exact Nat.mod_lt _ (by omega)
  have hqz : w * 4294967296 + d0 = q0 * v + z := by
    have := Nat.div_add_mod' (w * 4294967296 + d0) v
    rw [hq0, hz] at this; exact this.symm
  have hq1b : q1 < 4294967296 := by rw [← hq1, Nat.div_lt_iff_lt_mul (by omega)]; omega
  have hq0b : q0 < 4294967296 := by rw [← hq0, Nat.div_lt_iff_lt_mul (by omega)]; omega
  have hw64 : w < 18446744073709551616 := by omega
  have hz64 : z < 18446744073709551616 := by omega
  have f6 := g4 u d v q1 w hw64 hqw
  have f7 := g4 w d0 v q0 z hz64 hqz
  have f8 : IntKind.u64.wrap ((w : Int).tdiv (v1 : Int)) = ((w / v1 : Nat) : Int) := by rw [tdiv_nat, g1 _ _ hw64]
  have hfin : hi * 18446744073709551616 + lo = (q1 * 4294967296 + q0) * y + z / P ∧ z / P < y := by
    have h1 : (hi * 18446744073709551616 + lo) * P = (q1 * 4294967296 + q0) * v + z := by
      have ht2 : t = d * 4294967296 + d0 := by omega
      have h2 : (q1 * 4294967296 + q0) * v = q1 * v * 4294967296 + q0 * v := by rw [Nat.add_mul, Nat.mul_right_comm]
      rw [hN, h2]; exact kn_join hqw hqz ht2
    have h3 : (hi * 18446744073709551616 + lo) * P = (q1 * 4294967296 + q0) * y * P + z := by rw [h1, ← hv, Nat.mul_assoc]
    have h4 : z = ((hi * 18446744073709551616 + lo) - (q1 * 4294967296 + q0) * y) * P := by rw [Nat.sub_mul]; omega
    have h5 : z / P = (hi * 18446744073709551616 + lo) - (q1 * 4294967296 + q0) * y := by rw [h4, Nat.mul_div_cancel _ hP0]
    have h6 : (q1 * 4294967296 + q0) * y ≤ hi * 18446744073709551616 + lo := Nat.le_of_mul_le_mul_right (by omega) hP0
    refine ⟨by rw [h5]; exact (Nat.add_sub_cancel' h6).symm, ?_⟩
    rw [Nat.div_lt_iff_lt_mul hP0, hv]; exact hzv
  have hqq : (hi * 18446744073709551616 + lo) / y = q1 * 4294967296 + q0 := by
    rw [hfin.1, Nat.mul_comm _ y, Nat.mul_add_div (by omega), Nat.div_eq_of_lt hfin.2, Nat.add_zero]
  have hrr : (hi * 18446744073709551616 + lo) % y = z / P := by
    rw [hfin.1, Nat.mul_comm _ y, Nat.mul_add_mod, Nat.mod_eq_of_lt hfin.2]
  repeat' first
      | (first
          | refine TR.p hP (by first | exact lz) (by repeat' first | exact trivial | (intro _; assumption) | apply And.intro) ?_
          | refine TR.gp hP rfl (fun _ => by first | exact lz) (fun _ => by repeat' first | exact trivial | (intro _; assumption) | apply And.intro) ?_
          | refine TR.pv hP rfl (by first | exact lz) trivial (by repeat' first | exact trivial | (intro _; assumption) | apply And.intro) ?_
         try simp only [p32, e1, e2, e3, e4, e5, e6, e7, e8, e9, f1, f2, f3, f4, f5, g2 u v1 hu64, g3 u v1 hu64, vcb, ↓evSo_some, ↓reduceIte, reduceCtorEq, seval])
      | refine And.intro (fun h => ?_) (fun h => ?_)
      | refine And.intro (by first | omega | (simp only [maxLen, decide_eq_true_eq, decide_eq_false_iff_not] at *; omega)) ?_
      | (refine TR.aslO rfl rfl rfl rfl trivial (Nat.le_of_ble_eq_true rfl) ?_
         try simp only [p32, e1, e2, e3, e4, e5, e6, e7, e8, e9, f1, f2, f3, f4, f5, g2 u v1 hu64, g3 u v1 hu64, vcb, ↓evSo_some, ↓reduceIte, reduceCtorEq, seval])
      | refine And.intro trivial ?_
      | refine And.intro rfl ?_
      | fail
  refine vcC.loopX (X := Nat × Nat) (Y := Unit) (fun x => ⟨[(2, .d (.int .u64 v)), (8, .d (.int .u64 sh)), (9, .d (.int .u64 v1)), (10, .d (.int .u64 v0)), (11, .d (.int .u64 u)), (13, .d (.int .u64 d)), (14, .d (.int .u64 d0)), (15, .d (.int .u64 x.1)), (16, .d (.int .u64 x.2))], [], []⟩)
    (fun x => KnI u d v v1 v0 x.1 x.2) (fun x => x.1) (u / v1, u % v1)
    (fun _ => ⟨[(2, .d (.int .u64 v)), (8, .d (.int .u64 sh)), (9, .d (.int .u64 v1)), (10, .d (.int .u64 v0)), (11, .d (.int .u64 u)), (13, .d (.int .u64 d)), (14, .d (.int .u64 d0)), (15, .d (.int .u64 q1))], [], []⟩) (fun _ => True)
    ⟨kn_lo hv1 (by omega) hd, kn_start hv1 hv1b hv0 huv, (Nat.div_add_mod' u v1).symm, by have := Nat.mod_lt u (show 0 < v1 by omega); omega⟩ (Wk.of [] hfn rfl (by simp only [enb, vcb, ↓evSo_some, ↓reduceIte, reduceCtorEq, seval]) (by simp only [enb, vcb, ↓evSo_some, ↓reduceIte, reduceCtorEq, seval])) ?_ ?_
  · rintro ⟨q, r⟩ hk
    simp only at hk
    have hc := kn_cond (q := q) hd hv0 hk.r
    simp only [vcb, ↓evSo_some, ↓reduceIte, reduceCtorEq, seval]
    refine ⟨fun h4 => ?_, fun h4 => ?_⟩
    · have h5 := hdiv q r hk (hc.1 h4)
      have k1 := hk.e
      have k2 := hk.r
      have k3 := hk.hi
      have c1 : IntKind.u64.wrap ((q : Int) - 1) = ((q - 1 : Nat) : Int) := (wU (by omega)).trans (by omega)
      have c2 : IntKind.u64.wrap ((r : Int) + (v1 : Int)) = ((r + v1 : Nat) : Int) := (wU (by omega)).trans (by omega)
      have c3 : u = (q - 1) * v1 + (r + v1) := by
        have : q * v1 = (q - 1) * v1 + v1 := by
          rw [← Nat.succ_mul]; congr 1; omega
        omega
      simp only [c1, c2]
      refine ⟨fun h6 => ?_, fun h6 => ?_⟩
      · have h7 : 4294967296 ≤ r + v1 := by have := of_decide_eq_true h6; omega
        have h8 := kn_brk (d := d) hv1 hv0 (by omega) c3 (by omega) h7
        refine ⟨(), Wk.of [] hfn rfl (by simp only [enb, vcb, ↓evSo_some, ↓reduceIte, reduceCtorEq, seval]; omega) (by simp only [enb, vcb, ↓evSo_some, ↓reduceIte, reduceCtorEq, seval])⟩
      · have h7 : r + v1 < 4294967296 := by have := of_decide_eq_false h6; omega
        exact lopX.on (q - 1, r + v1) ⟨by simp only; omega, by simp only; omega, c3, h7⟩ (by simp only; omega) (Wk.of [] hfn rfl (by simp only [enb, vcb, ↓evSo_some, ↓reduceIte, reduceCtorEq, seval]) (by simp only [enb, vcb, ↓evSo_some, ↓reduceIte, reduceCtorEq, seval]))
    · have h5 : ¬ (4294967296 ≤ q ∨ 4294967296 * r + d < q * v0) := fun e => by rw [hc.2 e] at h4; cases h4
      have h8 := kn_le (d := d) hv1 (by omega) hk.e (by omega)
      have h9 := hk.lo
      exact ⟨(), Wk.of [] hfn rfl (by simp only [enb, vcb, ↓evSo_some, ↓reduceIte, reduceCtorEq, seval]; omega) (by simp only [enb, vcb, ↓evSo_some, ↓reduceIte, reduceCtorEq, seval])⟩
  · rintro - -
    simp only [f6, f8, g2 w v1 hw64, g3 w v1 hw64, vcb, ↓evSo_some, ↓reduceIte, reduceCtorEq, seval]
    refine ⟨by omega, ?_⟩
    have hdiv2 : ∀ q r, KnI w d0 v v1 v0 q r → (4294967296 ≤ q ∨ 4294967296 * r + d0 < q * v0) → (w * 4294967296 + d0) / v + 1 ≤ q := fun q r h hc => kn_dec hv1 hwv hd0 h.e hc
    refine vcC.loopX (X := Nat × Nat) (Y := Unit) (fun x => ⟨[(2, .d (.int .u64 v)), (8, .d (.int .u64 sh)), (9, .d (.int .u64 v1)), (10, .d (.int .u64 v0)), (14, .d (.int .u64 d0)), (15, .d (.int .u64 q1)), (17, .d (.int .u64 w)), (18, .d (.int .u64 x.1)), (16, .d (.int .u64 x.2))], [], []⟩)
      (fun x => KnI w d0 v v1 v0 x.1 x.2) (fun x => x.1) (w / v1, w % v1)
      (fun _ => ⟨[(2, .d (.int .u64 v)), (8, .d (.int .u64 sh)), (14, .d (.int .u64 d0)), (15, .d (.int .u64 q1)), (17, .d (.int .u64 w)), (18, .d (.int .u64 q0))], [], []⟩) (fun _ => True)
      ⟨kn_lo hv1 (by omega) hd0, kn_start hv1 hv1b hv0 hwv, (Nat.div_add_mod' w v1).symm, by have := Nat.mod_lt w (show 0 < v1 by omega); omega⟩ (Wk.of [] hfn rfl (by simp only [enb, vcb, ↓evSo_some, ↓reduceIte, reduceCtorEq, seval]) (by simp only [enb, vcb, ↓evSo_some, ↓reduceIte, reduceCtorEq, seval])) ?_ ?_
    · rintro ⟨q, r⟩ hk
      simp only at hk
      have hc := kn_cond (q := q) hd0 hv0 hk.r
      simp only [vcb, ↓evSo_some, ↓reduceIte, reduceCtorEq, seval]
      refine ⟨fun h4 => ?_, fun h4 => ?_⟩
      · have h5 := hdiv2 q r hk (hc.1 h4)
        have k1 := hk.e
        have k2 := hk.r
        have k3 := hk.hi
        have c1 : IntKind.u64.wrap ((q : Int) - 1) = ((q - 1 : Nat) : Int) := (wU (by omega)).trans (by omega)
        have c2 : IntKind.u64.wrap ((r : Int) + (v1 : Int)) = ((r + v1 : Nat) : Int) := (wU (by omega)).trans (by omega)
        have c3 : w = (q - 1) * v1 + (r + v1) := by
          have : q * v1 = (q - 1) * v1 + v1 := by
            rw [← Nat.succ_mul]; congr 1; omega
          omega
        simp only [c1, c2]
        refine ⟨fun h6 => ?_, fun h6 => ?_⟩
        · have h7 : 4294967296 ≤ r + v1 := by have := of_decide_eq_true h6; omega
          have h8 := kn_brk (d := d0) hv1 hv0 (by omega) c3 (by omega) h7
          refine ⟨(), Wk.of [] hfn rfl (by simp only [enb, vcb, ↓evSo_some, ↓reduceIte, reduceCtorEq, seval]; omega) (by simp only [enb, vcb, ↓evSo_some, ↓reduceIte, reduceCtorEq, seval])⟩
        · have h7 : r + v1 < 4294967296 := by have := of_decide_eq_false h6; omega
          exact lopX.on (q - 1, r + v1) ⟨by simp only; omega, by simp only; omega, c3, h7⟩ (by simp only; omega) (Wk.of [] hfn rfl (by simp only [enb, vcb, ↓evSo_some, ↓reduceIte, reduceCtorEq, seval]) (by simp only [enb, vcb, ↓evSo_some, ↓reduceIte, reduceCtorEq, seval]))
      · have h5 : ¬ (4294967296 ≤ q ∨ 4294967296 * r + d0 < q * v0) := fun e => by rw [hc.2 e] at h4; cases h4
        have h8 := kn_le (d := d0) hv1 (by omega) hk.e (by omega)
        have h9 := hk.lo
        exact ⟨(), Wk.of [] hfn rfl (by simp only [enb, vcb, ↓evSo_some, ↓reduceIte, reduceCtorEq, seval]; omega) (by simp only [enb, vcb, ↓evSo_some, ↓reduceIte, reduceCtorEq, seval])⟩
    · rintro - -
      have f9 : (z : Int).fdiv (P : Int) = ((z / P : Nat) : Int) := fdiv_nat z P
      have f10 : IntKind.u64.wrap (IntKind.u64.wrap ((q1 : Int) * 4294967296) + (q0 : Int)) = ((q1 * 4294967296 + q0 : Nat) : Int) := by
        rw [wU (a := (q1 : Int) * 4294967296) (by omega), wU (by omega)]; omega
      simp only [f7, f9, f10, e2, vcb, ↓evSo_some, ↓reduceIte, reduceCtorEq, seval]
      repeat' first
          | refine And.intro (fun h => ?_) (fun h => ?_)
          | refine And.intro (by first | omega | (simp only [maxLen, decide_eq_true_eq, decide_eq_false_iff_not] at *; omega)) ?_
          | (refine TR.aslO rfl rfl rfl rfl trivial (Nat.le_of_ble_eq_true rfl) ?_
             try simp only [vcb, ↓evSo_some, ↓reduceIte, reduceCtorEq, seval])
          | refine And.intro trivial ?_
          | refine And.intro rfl ?_
          | fail
      exact RetK.pure (by simp only [rs71, rsb, vcb, ↓evSo_some, ↓reduceIte, reduceCtorEq, seval]) (by (simp only [rs71, rsb, vcb, ↓evSo_some, ↓reduceIte, reduceCtorEq, seval, enb, vcb, ↓evSo_some, ↓reduceIte, reduceCtorEq, seval]) <;> (first | (rw [hqq, hrr]; exact VLe.refl _)))
def ofR (up : Nat → Nat → Nat → Bool) (a b c : Int) : Int × Int :=
  if a < 0 ∨ b < 0 ∨ c < 0 then (0, 1)
  else if c = 0 then (0, 6)
  else if 4000000000000000000 < a.toNat * b.toNat / c.toNat then (0, 5)
  else if 4000000000000000000 < a.toNat * b.toNat / c.toNat + (if up (a.toNat * b.toNat / c.toNat) (a.toNat * b.toNat % c.toNat) c.toNat = true then 1 else 0) then (0, 5)
  else (((a.toNat * b.toNat / c.toNat + (if up (a.toNat * b.toNat / c.toNat) (a.toNat * b.toNat % c.toNat) c.toNat = true then 1 else 0) : Nat) : Int), 0)
theorem sOf (g : Nat) (up : Nat → Nat → Nat → Bool) (hg : ∀ q r c : Nat, r < c → c < 9223372036854775808 → Ctr Try.prog g [.d (.int .u64 q), .d (.int .u64 r), .d (.int .u64 c)] [] (.d (.bool (up q r c))) [] [])
    (a b k : Int) (ha : a ≤ 9223372036854775807) (hb : b ≤ 9223372036854775807) (hc : k ≤ 9223372036854775807) :
    Ctr Try.prog 65 [.ag [.fn (.func g) [] []], .d (.int .i64 a), .d (.int .i64 b), .d (.int .i64 k)] [] (.tup [.d (.int .i64 (ofR up a b k).1), .d (.int .i64 (ofR up a b k).2)]) [] [] := by
  refine ctr_pure Try.func65 ok65 rfl cc65 cr65 Try.ntmps65 (by simp) rfl rfl ?_; intro c hP hfn; simp only [kc65, vcb, ↓evSo_some, ↓reduceIte, reduceCtorEq, seval]
  refine ⟨fun h1 => ?_, fun h1 => ?_⟩
  · have e : ofR up a b k = (0, 1) := by
      simp only [Bool.or_eq_true, decide_eq_true_eq] at h1
      rw [ofR, if_pos (by omega)]
    (refine RetK.pure (by simp only [rs65, rsb, vcb, ↓evSo_some, ↓reduceIte, reduceCtorEq, seval]) (VLe.tups ?_); simp only [rs65, rsb, vcb, ↓evSo_some, ↓reduceIte, reduceCtorEq, seval])
    rw [e]; exact ⟨VLe.refl _, VLe.refl _, trivial⟩
  have h1 : ¬ (a < 0 ∨ b < 0 ∨ k < 0) := by
    simp only [Bool.or_eq_false_iff, decide_eq_false_iff_not] at h1; omega
  refine ⟨fun h2 => ?_, fun h2 => ?_⟩
  · have h2 : k = 0 := by simpa using h2
    have e : ofR up a b k = (0, 6) := by rw [ofR, if_neg h1, if_pos h2]
    (refine RetK.pure (by simp only [rs65, rsb, vcb, ↓evSo_some, ↓reduceIte, reduceCtorEq, seval]) (VLe.tups ?_); simp only [rs65, rsb, vcb, ↓evSo_some, ↓reduceIte, reduceCtorEq, seval])
    rw [e]; exact ⟨VLe.refl _, VLe.refl _, trivial⟩
  have h2 : ¬ k = 0 := by simpa using h2
  obtain ⟨A, rfl⟩ : ∃ A : Nat, a = (A : Int) := ⟨a.toNat, by omega⟩
  obtain ⟨B, rfl⟩ : ∃ B : Nat, b = (B : Int) := ⟨b.toNat, by omega⟩
  obtain ⟨C, rfl⟩ : ∃ C : Nat, k = (C : Int) := ⟨k.toNat, by omega⟩
  have e1 : IntKind.u64.wrap (A : Int) = (A : Int) := wU (by omega)
  have e2 : IntKind.u64.wrap (B : Int) = (B : Int) := wU (by omega)
  have e3 : IntKind.u64.wrap (C : Int) = (C : Int) := wU (by omega)
  have hR : ofR up (A : Int) (B : Int) (C : Int) = (if 4000000000000000000 < A * B / C then (0, 5) else
      if 4000000000000000000 < A * B / C + (if up (A * B / C) (A * B % C) C = true then 1 else 0) then (0, 5)
      else (((A * B / C + (if up (A * B / C) (A * B % C) C = true then 1 else 0) : Nat) : Int), 0)) := by
    rw [ofR, if_neg h1, if_neg h2]; rfl
  have hm := Nat.div_add_mod (A * B) 18446744073709551616
  have hml : A * B % 18446744073709551616 < 18446744073709551616 := Nat.mod_lt _ (by omega)
  have hC0 : 0 < C := by omega
  simp only [e1, e2, e3]
  repeat' first
      | (first
          | refine TR.p hP (by first | exact sMul64 A B (by omega) (by omega)) (by repeat' first | exact trivial | (intro _; assumption) | apply And.intro) ?_
          | refine TR.gp hP rfl (fun _ => by first | exact sMul64 A B (by omega) (by omega)) (fun _ => by repeat' first | exact trivial | (intro _; assumption) | apply And.intro) ?_
          | refine TR.pv hP rfl (by first | exact sMul64 A B (by omega) (by omega)) trivial (by repeat' first | exact trivial | (intro _; assumption) | apply And.intro) ?_
         try simp only [e1, e2, e3, vcb, ↓evSo_some, ↓reduceIte, reduceCtorEq, seval])
      | refine And.intro (fun h => ?_) (fun h => ?_)
      | refine And.intro (by first | omega | (simp only [maxLen, decide_eq_true_eq, decide_eq_false_iff_not] at *; omega)) ?_
      | (refine TR.aslO rfl rfl rfl rfl trivial (Nat.le_of_ble_eq_true rfl) ?_
         try simp only [e1, e2, e3, vcb, ↓evSo_some, ↓reduceIte, reduceCtorEq, seval])
      | refine And.intro trivial ?_
      | refine And.intro rfl ?_
      | fail
  · have h3 : 4000000000000000000 < A * B / C := by
      have h := of_decide_eq_true h
      have h4 : C ≤ A * B / 18446744073709551616 := by omega
      have h5 : C * 18446744073709551616 ≤ A * B := by
        have := (Nat.le_div_iff_mul_le (by omega)).1 h4; exact this
      have h6 : 18446744073709551616 ≤ A * B / C := (Nat.le_div_iff_mul_le hC0).2 (by omega)
      omega
    (refine RetK.pure (by simp only [rs65, rsb, vcb, ↓evSo_some, ↓reduceIte, reduceCtorEq, seval]) (VLe.tups ?_); simp only [rs65, rsb, vcb, ↓evSo_some, ↓reduceIte, reduceCtorEq, seval])
    rw [hR, if_pos h3]; exact ⟨VLe.refl _, VLe.refl _, trivial⟩
  have hh : A * B / 18446744073709551616 < C := by have := of_decide_eq_false h; omega
  have hd := sDiv64 (A * B / 18446744073709551616) (A * B % 18446744073709551616) C hh hml (by omega)
  rw [show A * B / 18446744073709551616 * 18446744073709551616 + A * B % 18446744073709551616 = A * B by omega] at hd
  have hrC : A * B % C < C := Nat.mod_lt _ hC0
  generalize A * B / C = q at *
  generalize A * B % C = r at *
  repeat' first
      | (first
          | refine TR.p hP (by first | exact hd | exact hg q r C hrC (by omega)) (by repeat' first | exact trivial | (intro _; assumption) | apply And.intro) ?_
          | refine TR.gp hP rfl (fun _ => by first | exact hd | exact hg q r C hrC (by omega)) (fun _ => by repeat' first | exact trivial | (intro _; assumption) | apply And.intro) ?_
          | refine TR.pv hP rfl (by first | exact hd | exact hg q r C hrC (by omega)) trivial (by repeat' first | exact trivial | (intro _; assumption) | apply And.intro) ?_
         try simp only [e1, e2, e3, vcb, ↓evSo_some, ↓reduceIte, reduceCtorEq, seval])
      | refine And.intro (fun h => ?_) (fun h => ?_)
      | refine And.intro (by first | omega | (simp only [maxLen, decide_eq_true_eq, decide_eq_false_iff_not] at *; omega)) ?_
      | (refine TR.aslO rfl rfl rfl rfl trivial (Nat.le_of_ble_eq_true rfl) ?_
         try simp only [e1, e2, e3, vcb, ↓evSo_some, ↓reduceIte, reduceCtorEq, seval])
      | refine And.intro trivial ?_
      | refine And.intro rfl ?_
      | fail
  · have h4 : 4000000000000000000 < q := by have := of_decide_eq_true h; omega
    (refine RetK.pure (by simp only [rs65, rsb, vcb, ↓evSo_some, ↓reduceIte, reduceCtorEq, seval]) (VLe.tups ?_); simp only [rs65, rsb, vcb, ↓evSo_some, ↓reduceIte, reduceCtorEq, seval])
    rw [hR, if_pos h4]; exact ⟨VLe.refl _, VLe.refl _, trivial⟩
  · rename_i h5 h6
    have h4 : ¬ 4000000000000000000 < q := by have := of_decide_eq_false h5; omega
    have e4 : IntKind.u64.wrap ((q : Int) + 1) = ((q + 1 : Nat) : Int) := (wU (by omega)).trans (by omega)
    rw [e4] at h
    have h7 : 4000000000000000000 < q + 1 := by have := of_decide_eq_true h; omega
    (refine RetK.pure (by simp only [rs65, rsb, vcb, ↓evSo_some, ↓reduceIte, reduceCtorEq, seval]) (VLe.tups ?_); simp only [rs65, rsb, vcb, ↓evSo_some, ↓reduceIte, reduceCtorEq, seval])
    rw [hR, if_neg h4, if_pos h6, if_pos h7]; exact ⟨VLe.refl _, VLe.refl _, trivial⟩
  · rename_i h5 h6
    have h4 : ¬ 4000000000000000000 < q := by have := of_decide_eq_false h5; omega
    have e4 : IntKind.u64.wrap ((q : Int) + 1) = ((q + 1 : Nat) : Int) := (wU (by omega)).trans (by omega)
    rw [e4] at h
    have h7 : ¬ 4000000000000000000 < q + 1 := by have := of_decide_eq_false h; omega
    (refine RetK.pure (by simp only [rs65, rsb, vcb, ↓evSo_some, ↓reduceIte, reduceCtorEq, seval]) (VLe.tups ?_); simp only [rs65, rsb, vcb, ↓evSo_some, ↓reduceIte, reduceCtorEq, seval])
    rw [hR, if_neg h4, if_pos h6, if_neg h7, e4, wI (a := ((q + 1 : Nat) : Int)) (by omega)]; exact ⟨VLe.refl _, VLe.refl _, trivial⟩
  · rename_i h5 h6
    exfalso; rw [h5] at h; cases h
  · rename_i h5 h6
    have h4 : ¬ 4000000000000000000 < q := by have := of_decide_eq_false h5; omega
    have h8 : ¬ (up q r C = true) := by rw [h6]; simp
    (refine RetK.pure (by simp only [rs65, rsb, vcb, ↓evSo_some, ↓reduceIte, reduceCtorEq, seval]) (VLe.tups ?_); simp only [rs65, rsb, vcb, ↓evSo_some, ↓reduceIte, reduceCtorEq, seval])
    rw [hR, if_neg h4, if_neg h8, Nat.add_zero, if_neg h4, wI (a := (q : Int)) (by omega)]; exact ⟨VLe.refl _, VLe.refl _, trivial⟩
end Go.Proofs.Ytkifajabiggfmaa
end
