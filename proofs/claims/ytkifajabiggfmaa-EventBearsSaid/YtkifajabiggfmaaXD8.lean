import Derived.Test.YtkifajabiggfmaaXD7
section
set_option linter.unusedSimpArgs false
set_option linter.unusedVariables false
namespace Go.Proofs.Ytkifajabiggfmaa
set_option linter.unusedSimpArgs false
set_option linter.unusedVariables false
open Go.Bx
set_option maxRecDepth 10000
def okS (f t : Int) : Bool := decide (f ≥ 1) && decide (f ≤ t) && decide (t ≤ 292195)
def keptR (f t : Int) : Int × Int := if (!(okS f t) || f == t) = true then (0, 0) else (f, t)
def manyR (f t : Int) : Int := IntKind.i64.wrap ((keptR f t).2 - (keptR f t).1)
def inS (f t d : Int) : Bool := decide (d ≥ (keptR f t).1) && decide (d < (keptR f t).2)
def vS (f t : Int) : V := .ag [.d (.int .i64 f), .d (.int .i64 t)]
theorem s55 (f t : Int) : Ctr Try.prog 68 [vS f t] [] (.d (.bool (okS f t))) [] [] := by
  refine ctr_pure Try.func68 ok68 rfl cc68 cr68 Try.ntmps68 (by simp) rfl rfl ?_; intro c hP hfn; simp only [kc68, vS, vcb, ↓evSo_some, ↓reduceIte, reduceCtorEq, seval]
  exact RetK.pure (by simp only [rs68, rsb, vcb, ↓evSo_some, ↓reduceIte, reduceCtorEq, seval]) (by simp only [rs68, rsb, vcb, ↓evSo_some, ↓reduceIte, reduceCtorEq, seval, enb, vcb, ↓evSo_some, ↓reduceIte, reduceCtorEq, seval, okS])
theorem s51 (f t : Int) : Ctr Try.prog 58 [vS f t] [] (vS (keptR f t).1 (keptR f t).2) [] [] := by
  refine ctr_pure Try.func58 ok58 rfl cc58 cr58 Try.ntmps58 (by simp) rfl rfl ?_; intro c hP hfn; simp only [kc58, vS, vcb, ↓evSo_some, ↓reduceIte, reduceCtorEq, seval]
  repeat' first
      | (first
          | refine TR.p hP (by first | exact s55 ..) (by repeat' first | exact trivial | (intro _; assumption) | apply And.intro) ?_
          | refine TR.gp hP rfl (fun _ => by first | exact s55 ..) (fun _ => by repeat' first | exact trivial | (intro _; assumption) | apply And.intro) ?_
          | refine TR.pv hP rfl (by first | exact s55 ..) trivial (by repeat' first | exact trivial | (intro _; assumption) | apply And.intro) ?_
         try simp only [vcb, ↓evSo_some, ↓reduceIte, reduceCtorEq, seval])
      | refine And.intro (fun h => ?_) (fun h => ?_)
      | refine And.intro (by first | omega | (simp only [maxLen, decide_eq_true_eq, decide_eq_false_iff_not] at *; omega)) ?_
      | (refine TR.aslO rfl rfl rfl rfl trivial (Nat.le_of_ble_eq_true rfl) ?_
         try simp only [vcb, ↓evSo_some, ↓reduceIte, reduceCtorEq, seval])
      | refine And.intro trivial ?_
      | refine And.intro rfl ?_
      | fail
  all_goals exact RetK.pure (by simp only [rs58, rsb, vcb, ↓evSo_some, ↓reduceIte, reduceCtorEq, seval]) (by simp only [rs58, rsb, vcb, ↓evSo_some, ↓reduceIte, reduceCtorEq, seval, enb, vcb, ↓evSo_some, ↓reduceIte, reduceCtorEq, seval, keptR, vS, *])
theorem s39 (f t d : Int) : Ctr Try.prog 39 [vS f t, .d (.int .i64 d)] [] (.d (.bool (inS f t d))) [] [] := by
  refine ctr_pure Try.func39 ok39 rfl cc39 cr39 Try.ntmps39 (by simp) rfl rfl ?_; intro c hP hfn; simp only [kc39, vS, vcb, ↓evSo_some, ↓reduceIte, reduceCtorEq, seval]
  repeat' first
      | (first
          | refine TR.p hP (by first | exact s51 ..) (by repeat' first | exact trivial | (intro _; assumption) | apply And.intro) ?_
          | refine TR.gp hP rfl (fun _ => by first | exact s51 ..) (fun _ => by repeat' first | exact trivial | (intro _; assumption) | apply And.intro) ?_
          | refine TR.pv hP rfl (by first | exact s51 ..) trivial (by repeat' first | exact trivial | (intro _; assumption) | apply And.intro) ?_
         try simp only [vS, vcb, ↓evSo_some, ↓reduceIte, reduceCtorEq, seval])
      | refine And.intro (fun h => ?_) (fun h => ?_)
      | refine And.intro (by first | omega | (simp only [maxLen, decide_eq_true_eq, decide_eq_false_iff_not] at *; omega)) ?_
      | (refine TR.aslO rfl rfl rfl rfl trivial (Nat.le_of_ble_eq_true rfl) ?_
         try simp only [vS, vcb, ↓evSo_some, ↓reduceIte, reduceCtorEq, seval])
      | refine And.intro trivial ?_
      | refine And.intro rfl ?_
      | fail
  exact RetK.pure (by simp only [rs39, rsb, vcb, ↓evSo_some, ↓reduceIte, reduceCtorEq, seval]) (by simp only [rs39, rsb, vcb, ↓evSo_some, ↓reduceIte, reduceCtorEq, seval, enb, vcb, ↓evSo_some, ↓reduceIte, reduceCtorEq, seval, inS])
theorem s42 (f t : Int) : Ctr Try.prog 52 [vS f t] [] (.d (.int .i64 (manyR f t))) [] [] := by
  refine ctr_pure Try.func52 ok52 rfl cc52 cr52 Try.ntmps52 (by simp) rfl rfl ?_; intro c hP hfn; simp only [kc52, vS, vcb, ↓evSo_some, ↓reduceIte, reduceCtorEq, seval]
  repeat' first
      | (first
          | refine TR.p hP (by first | exact s51 ..) (by repeat' first | exact trivial | (intro _; assumption) | apply And.intro) ?_
          | refine TR.gp hP rfl (fun _ => by first | exact s51 ..) (fun _ => by repeat' first | exact trivial | (intro _; assumption) | apply And.intro) ?_
          | refine TR.pv hP rfl (by first | exact s51 ..) trivial (by repeat' first | exact trivial | (intro _; assumption) | apply And.intro) ?_
         try simp only [vS, vcb, ↓evSo_some, ↓reduceIte, reduceCtorEq, seval])
      | refine And.intro (fun h => ?_) (fun h => ?_)
      | refine And.intro (by first | omega | (simp only [maxLen, decide_eq_true_eq, decide_eq_false_iff_not] at *; omega)) ?_
      | (refine TR.aslO rfl rfl rfl rfl trivial (Nat.le_of_ble_eq_true rfl) ?_
         try simp only [vS, vcb, ↓evSo_some, ↓reduceIte, reduceCtorEq, seval])
      | refine And.intro trivial ?_
      | refine And.intro rfl ?_
      | fail
  exact RetK.pure (by simp only [rs52, rsb, vcb, ↓evSo_some, ↓reduceIte, reduceCtorEq, seval]) (by simp only [rs52, rsb, vcb, ↓evSo_some, ↓reduceIte, reduceCtorEq, seval, enb, vcb, ↓evSo_some, ↓reduceIte, reduceCtorEq, seval, manyR])
def inB (lo hi x : Int) : Bool := !(decide (x < lo) || decide (x > hi))
def vW (lo hi : Int) : V := .ag [.d (.int .i64 lo), .d (.int .i64 hi)]
theorem s41 (lo hi : Int) (l : List Int) (hl : l.length ≤ 9223372036854775807) : Ctr Try.prog 41 [vW lo hi, .d (slK .i64 l)] [] (.d (.bool (l.all (inB lo hi)))) [] [] := by
  refine ctr_pure Try.func41 ok41 rfl cc41 cr41 Try.ntmps41 (by simp) rfl rfl ?_; intro c hP hfn; simp only [kc41, vW, vcb, ↓evSo_some, ↓reduceIte, reduceCtorEq, seval]
  refine vcC.loop (X := Nat) (fun k => ⟨[(2, .own 2 0), (7, .d (slK .i64 l)), (8, .d (.int .i64 l.length)), (9, .d (.int .i64 k))], [(2, .fix [.d (.int .i64 lo), .d (.int .i64 hi)])], [2]⟩)
    (fun k => k ≤ l.length ∧ l.all (inB lo hi) = (l.drop k).all (inB lo hi)) (fun k => l.length - k) 0 ⟨Nat.zero_le _, rfl⟩ (Wk.of [] hfn rfl (by simp only [enb, vcb, ↓evSo_some, ↓reduceIte, reduceCtorEq, seval]) (by simp only [enb, vcb, ↓evSo_some, ↓reduceIte, reduceCtorEq, seval])) ?_
  rintro k ⟨hk, he⟩
  simp only [vcb, ↓evSo_some, ↓reduceIte, reduceCtorEq, seval]
  refine ⟨fun h1 => ?_, fun h1 => ?_⟩
  · have hlt : k < l.length := by simpa using h1
    obtain ⟨x, hd, hg, -, -⟩ := drop_at hlt
    simp only [hg]
    rw [hd, List.all_cons] at he
    repeat' first
        | refine And.intro (fun h => ?_) (fun h => ?_)
        | refine And.intro (by first | omega | (simp only [maxLen, decide_eq_true_eq, decide_eq_false_iff_not] at *; omega)) ?_
        | (refine TR.aslO rfl rfl rfl rfl trivial (Nat.le_of_ble_eq_true rfl) ?_
           try simp only [vcb, ↓evSo_some, ↓reduceIte, reduceCtorEq, seval])
        | refine And.intro trivial ?_
        | refine And.intro rfl ?_
        | fail
    · exact RetK.pure (by simp only [rs41, rsb, vcb, ↓evSo_some, ↓reduceIte, reduceCtorEq, seval]) (by (simp only [rs41, rsb, vcb, ↓evSo_some, ↓reduceIte, reduceCtorEq, seval, enb, vcb, ↓evSo_some, ↓reduceIte, reduceCtorEq, seval]) <;> (first | rw [he]; simp [inB, h]))
    · refine lopK.on (k + 1) ⟨hlt, ?_⟩ (by omega) (Wk.of [] hfn rfl (by simp only [enb, vcb, ↓evSo_some, ↓reduceIte, reduceCtorEq, seval]; exact wS (by omega)) (by simp only [enb, vcb, ↓evSo_some, ↓reduceIte, reduceCtorEq, seval]))
      rw [he]; simp [inB, h]
  · have hkl : k = l.length := by simp at h1; omega
    rw [hkl] at he
    exact RetK.pure (by simp only [rs41, rsb, vcb, ↓evSo_some, ↓reduceIte, reduceCtorEq, seval]) (by (simp only [rs41, rsb, vcb, ↓evSo_some, ↓reduceIte, reduceCtorEq, seval, enb, vcb, ↓evSo_some, ↓reduceIte, reduceCtorEq, seval]) <;> (first | simp [he]))
theorem s41' {lo hi : Int} {full : Bool} {n : Nat} {ds : List D} {l : List Int} (h : LitI .i64 ds l) (hn : n = l.length) (hl : l.length ≤ 9223372036854775807) : Ctr Try.prog 41 [vW lo hi, .d (.sl full 1 n (litRow 1 ds))] [] (.d (.bool (l.all (inB lo hi)))) [] [] :=
  (s41 lo hi l hl).arg ⟨VLe.refl _, h.vle hn, trivial⟩
structure Tr where
  id : Int
  kind : Int
  sf : Int
  st : Int
  bp : Int
  att : Int
  wid : Int
  aga : Int
  per : Int
instance : Inhabited Tr := ⟨⟨0, 0, 0, 0, 0, 0, 0, 0, 0⟩⟩
structure Ls where
  cl : Int
  ev : Int
  day : Int
  per : Int
  amt : Int
instance : Inhabited Ls := ⟨⟨0, 0, 0, 0, 0⟩⟩
def cT (t : Tr) : List V := [.d (.int .i64 t.id), .d (.int .i64 t.kind), .d (.int .i64 t.sf), .d (.int .i64 t.st), .d (.int .i64 t.bp), .d (.int .i64 t.att), .d (.int .i64 t.wid), .d (.int .i64 t.aga), .d (.int .i64 t.per)]
def vT (t : Tr) : V := .ag (cT t)
def cX' (x : Ls) : List V := [.d (.int .i64 x.cl), .d (.int .i64 x.ev), .d (.int .i64 x.day), .d (.int .i64 x.per), .d (.int .i64 x.amt)]
def vX (x : Ls) : V := .ag (cX' x)
def slX (l : List Ls) : D := .sl false 5 l.length (fun i => [.int .i64 (l.getD i default).cl, .int .i64 (l.getD i default).ev, .int .i64 (l.getD i default).day, .int .i64 (l.getD i default).per, .int .i64 (l.getD i default).amt])
def rightT (t : Tr) : Bool :=
  !(!(inB 1 1000000000 t.id) || (manyR t.sf t.st == 0) || !(inB 1 255 t.per)) &&
    (if t.kind = 1 then inB 1 10000 t.bp && (inB 0 0 t.att && (inB 0 0 t.wid && inB 0 0 t.aga))
     else if t.kind = 2 ∨ t.kind = 3 then (t.bp == 0) && (inB 0 1000000000000000 t.att && inB 0 1000000000000000 t.wid) && decide (t.wid > 0) && inB 0 100 t.aga
     else false)
theorem s26 (t : Tr) : Ctr Try.prog 29 [vT t] [] (.d (.bool (rightT t))) [] [] := by
  refine ctr_pure Try.func29 ok29 rfl cc29 cr29 Try.ntmps29 (by simp) rfl rfl ?_; intro c hP hfn; simp only [kc29, vT, cT, vcb, ↓evSo_some, ↓reduceIte, reduceCtorEq, seval]
  repeat' first
      | (first
          | refine TR.p hP (by first | exact s41' (by repeat constructor) (by rfl) (by simp) | exact s42 ..) (by repeat' first | exact trivial | (intro _; assumption) | apply And.intro) ?_
          | refine TR.gp hP rfl (fun _ => by first | exact s41' (by repeat constructor) (by rfl) (by simp) | exact s42 ..) (fun _ => by repeat' first | exact trivial | (intro _; assumption) | apply And.intro) ?_
          | refine TR.pv hP rfl (by first | exact s41' (by repeat constructor) (by rfl) (by simp) | exact s42 ..) trivial (by repeat' first | exact trivial | (intro _; assumption) | apply And.intro) ?_
         try simp only [List.all_cons, List.all_nil, vcb, ↓evSo_some, ↓reduceIte, reduceCtorEq, seval])
      | refine And.intro (fun h => ?_) (fun h => ?_)
      | refine And.intro (by first | omega | (simp only [maxLen, decide_eq_true_eq, decide_eq_false_iff_not] at *; omega)) ?_
      | (refine TR.aslO rfl rfl rfl rfl trivial (Nat.le_of_ble_eq_true rfl) ?_
         try simp only [List.all_cons, List.all_nil, vcb, ↓evSo_some, ↓reduceIte, reduceCtorEq, seval])
      | refine And.intro trivial ?_
      | refine And.intro rfl ?_
      | fail
  all_goals exact RetK.pure (by simp only [rs29, rsb, vcb, ↓evSo_some, ↓reduceIte, reduceCtorEq, seval]) (by (simp only [rs29, rsb, vcb, ↓evSo_some, ↓reduceIte, reduceCtorEq, seval, enb, vcb, ↓evSo_some, ↓reduceIte, reduceCtorEq, seval]) <;> (first | (simp [*, rightT]; done) | (simp_all [rightT]; done) | (simp only [rightT]; grind)))
def lossX (x : Ls) : Bool := inB 1 1000000000 x.cl && inB 0 1000000000 x.ev && inB 1 292194 x.day && inB 0 7 x.per && inB 0 1000000000000000 x.amt
theorem s28 (x : Ls) : Ctr Try.prog 22 [vX x] [] (.d (.bool (lossX x))) [] [] := by
  refine ctr_pure Try.func22 ok22 rfl cc22 cr22 Try.ntmps22 (by simp) rfl rfl ?_; intro c hP hfn; simp only [kc22, vX, cX', vcb, ↓evSo_some, ↓reduceIte, reduceCtorEq, seval]
  repeat' first
      | (first
          | refine TR.p hP (by first | exact s41' (by repeat constructor) (by rfl) (by simp)) (by repeat' first | exact trivial | (intro _; assumption) | apply And.intro) ?_
          | refine TR.gp hP rfl (fun _ => by first | exact s41' (by repeat constructor) (by rfl) (by simp)) (fun _ => by repeat' first | exact trivial | (intro _; assumption) | apply And.intro) ?_
          | refine TR.pv hP rfl (by first | exact s41' (by repeat constructor) (by rfl) (by simp)) trivial (by repeat' first | exact trivial | (intro _; assumption) | apply And.intro) ?_
         try simp only [List.all_cons, List.all_nil, vcb, ↓evSo_some, ↓reduceIte, reduceCtorEq, seval])
      | refine And.intro (fun h => ?_) (fun h => ?_)
      | refine And.intro (by first | omega | (simp only [maxLen, decide_eq_true_eq, decide_eq_false_iff_not] at *; omega)) ?_
      | (refine TR.aslO rfl rfl rfl rfl trivial (Nat.le_of_ble_eq_true rfl) ?_
         try simp only [List.all_cons, List.all_nil, vcb, ↓evSo_some, ↓reduceIte, reduceCtorEq, seval])
      | refine And.intro trivial ?_
      | refine And.intro rfl ?_
      | fail
  all_goals exact RetK.pure (by simp only [rs22, rsb, vcb, ↓evSo_some, ↓reduceIte, reduceCtorEq, seval]) (by (simp only [rs22, rsb, vcb, ↓evSo_some, ↓reduceIte, reduceCtorEq, seval, enb, vcb, ↓evSo_some, ↓reduceIte, reduceCtorEq, seval]) <;> (first | (simp [*, lossX]; done) | (simp_all [lossX]; done) | (simp only [lossX]; grind)))
def bitB (per p : Int) : Bool := IntKind.i64.wrap ((BitVec.ofInt IntKind.i64.bits (per.fdiv (2 ^ (min p.toNat IntKind.i64.bits))) &&& BitVec.ofInt IntKind.i64.bits 1).toNat : Int) == 1
def takesT (t : Tr) (x : Ls) : Bool := rightT t && lossX x && inS t.sf t.st x.day && bitB t.per x.per
theorem inB_iff {lo hi x : Int} : inB lo hi x = true ↔ lo ≤ x ∧ x ≤ hi := by
  simp [inB]
theorem lossX_iff {x : Ls} : lossX x = true ↔ (1 ≤ x.cl ∧ x.cl ≤ 1000000000) ∧ (0 ≤ x.ev ∧ x.ev ≤ 1000000000) ∧ (1 ≤ x.day ∧ x.day ≤ 292194) ∧ (0 ≤ x.per ∧ x.per ≤ 7) ∧ (0 ≤ x.amt ∧ x.amt ≤ 1000000000000000) := by
  simp only [lossX, Bool.and_eq_true, inB_iff, and_assoc]
theorem takes_side {t : Tr} {x : Ls} (h : (rightT t && lossX x && inS t.sf t.st x.day) = true) : 0 ≤ x.per := by
  simp only [Bool.and_eq_true, lossX_iff] at h
  exact h.1.2.2.2.2.1.1
theorem s23 (t : Tr) (x : Ls) : Ctr Try.prog 20 [vT t, vX x] [] (.d (.bool (takesT t x))) [] [] := by
  refine ctr_pure Try.func20 ok20 rfl cc20 cr20 Try.ntmps20 (by simp) rfl rfl ?_; intro c hP hfn; simp only [kc20, vT, vX, cT, cX', vcb, ↓evSo_some, ↓reduceIte, reduceCtorEq, seval]
  repeat' first
      | (first
          | refine TR.p hP (by first | exact s26 t | exact s28 x | exact s39 ..) (by repeat' first | exact trivial | (intro _; assumption) | apply And.intro) ?_
          | refine TR.gp hP rfl (fun _ => by first | exact s26 t | exact s28 x | exact s39 ..) (fun _ => by repeat' first | exact trivial | (intro _; assumption) | apply And.intro) ?_
          | refine TR.pv hP rfl (by first | exact s26 t | exact s28 x | exact s39 ..) trivial (by repeat' first | exact trivial | (intro _; assumption) | apply And.intro) ?_
         try simp only [vcb, ↓evSo_some, ↓reduceIte, reduceCtorEq, seval])
      | refine And.intro (fun h => ?_) (fun h => ?_)
      | refine And.intro (by first | omega | (simp only [maxLen, decide_eq_true_eq, decide_eq_false_iff_not] at *; omega)) ?_
      | (refine TR.aslO rfl rfl rfl rfl trivial (Nat.le_of_ble_eq_true rfl) ?_
         try simp only [vcb, ↓evSo_some, ↓reduceIte, reduceCtorEq, seval])
      | refine And.intro trivial ?_
      | refine And.intro rfl ?_
      | refine And.intro (fun h => takes_side h) ?_
      | fail
  all_goals exact RetK.pure (by simp only [rs20, rsb, vcb, ↓evSo_some, ↓reduceIte, reduceCtorEq, seval]) (by (simp only [rs20, rsb, vcb, ↓evSo_some, ↓reduceIte, reduceCtorEq, seval, enb, vcb, ↓evSo_some, ↓reduceIte, reduceCtorEq, seval]) <;> (first | (simp [*, takesT, bitB]; done) | (simp_all [takesT, bitB]; done) | (simp only [takesT, bitB]; grind)))
theorem s38 (t : Tr) : Ctr Try.prog 40 [vT t] [] (.d (.bool (rightT t && t.kind != 1))) [] [] := by
  refine ctr_pure Try.func40 ok40 rfl cc40 cr40 Try.ntmps40 (by simp) rfl rfl ?_; intro c hP hfn; simp only [kc40, vT, cT, vcb, ↓evSo_some, ↓reduceIte, reduceCtorEq, seval]
  repeat' first
      | (first
          | refine TR.p hP (by first | exact s26 t) (by repeat' first | exact trivial | (intro _; assumption) | apply And.intro) ?_
          | refine TR.gp hP rfl (fun _ => by first | exact s26 t) (fun _ => by repeat' first | exact trivial | (intro _; assumption) | apply And.intro) ?_
          | refine TR.pv hP rfl (by first | exact s26 t) trivial (by repeat' first | exact trivial | (intro _; assumption) | apply And.intro) ?_
         try simp only [vcb, ↓evSo_some, ↓reduceIte, reduceCtorEq, seval])
      | refine And.intro (fun h => ?_) (fun h => ?_)
      | refine And.intro (by first | omega | (simp only [maxLen, decide_eq_true_eq, decide_eq_false_iff_not] at *; omega)) ?_
      | (refine TR.aslO rfl rfl rfl rfl trivial (Nat.le_of_ble_eq_true rfl) ?_
         try simp only [vcb, ↓evSo_some, ↓reduceIte, reduceCtorEq, seval])
      | refine And.intro trivial ?_
      | refine And.intro rfl ?_
      | fail
  all_goals exact RetK.pure (by simp only [rs40, rsb, vcb, ↓evSo_some, ↓reduceIte, reduceCtorEq, seval]) (by (simp only [rs40, rsb, vcb, ↓evSo_some, ↓reduceIte, reduceCtorEq, seval, enb, vcb, ↓evSo_some, ↓reduceIte, reduceCtorEq, seval]) <;> (first | (simp [*]; done) | (simp_all []; done) | (simp only [if_true]; grind)))
def highT (t : Tr) : Bool := rightT t && t.kind != 1
def partT (t : Tr) (amt : Int) : Int := if (!(highT t) || decide (amt ≤ t.att)) = true then 0 else min t.wid (IntKind.i64.wrap (amt - t.att))
theorem high_bounds {t : Tr} (h : highT t = true) : (t.kind = 2 ∨ t.kind = 3) ∧ (0 ≤ t.att ∧ t.att ≤ 1000000000000000) ∧ (1 ≤ t.wid ∧ t.wid ≤ 1000000000000000) ∧ (0 ≤ t.aga ∧ t.aga ≤ 100) := by
  unfold highT rightT at h
  by_cases h1 : t.kind = 1
  · simp [h1] at h
  · by_cases h2 : t.kind = 2 ∨ t.kind = 3
    · rw [if_neg h1, if_pos h2] at h
      simp only [Bool.and_eq_true, inB_iff, decide_eq_true_eq] at h
      omega
    · rw [if_neg h1, if_neg h2] at h
      simp at h
def roomT (t : Tr) : Int := if (!(highT t)) = true then 0 else IntKind.i64.wrap (t.wid * IntKind.i64.wrap (1 + t.aga))
theorem s18 (t : Tr) (amt : Int) : Ctr Try.prog 30 [vT t, .d (.int .i64 amt)] [] (.d (.int .i64 (partT t amt))) [] [] := by
  refine ctr_pure Try.func30 ok30 rfl cc30 cr30 Try.ntmps30 (by simp) rfl rfl ?_; intro c hP hfn; simp only [kc30, vT, cT, vcb, ↓evSo_some, ↓reduceIte, reduceCtorEq, seval]
  repeat' first
      | (first
          | refine TR.p hP (by first | exact s38 t) (by repeat' first | exact trivial | (intro _; assumption) | apply And.intro) ?_
          | refine TR.gp hP rfl (fun _ => by first | exact s38 t) (fun _ => by repeat' first | exact trivial | (intro _; assumption) | apply And.intro) ?_
          | refine TR.pv hP rfl (by first | exact s38 t) trivial (by repeat' first | exact trivial | (intro _; assumption) | apply And.intro) ?_
         try simp only [vcb, ↓evSo_some, ↓reduceIte, reduceCtorEq, seval])
      | refine And.intro (fun h => ?_) (fun h => ?_)
      | refine And.intro (by first | omega | (simp only [maxLen, decide_eq_true_eq, decide_eq_false_iff_not] at *; omega)) ?_
      | (refine TR.aslO rfl rfl rfl rfl trivial (Nat.le_of_ble_eq_true rfl) ?_
         try simp only [vcb, ↓evSo_some, ↓reduceIte, reduceCtorEq, seval])
      | refine And.intro trivial ?_
      | refine And.intro rfl ?_
      | fail
  all_goals exact RetK.pure (by simp only [rs30, rsb, vcb, ↓evSo_some, ↓reduceIte, reduceCtorEq, seval]) (by (simp only [rs30, rsb, vcb, ↓evSo_some, ↓reduceIte, reduceCtorEq, seval, enb, vcb, ↓evSo_some, ↓reduceIte, reduceCtorEq, seval]) <;> (first | (simp [*, partT, highT]; done) | (simp_all [partT, highT]; done) | (simp only [partT, highT]; grind)))
theorem s20 (t : Tr) : Ctr Try.prog 21 [vT t] [] (.d (.int .i64 (roomT t))) [] [] := by
  refine ctr_pure Try.func21 ok21 rfl cc21 cr21 Try.ntmps21 (by simp) rfl rfl ?_; intro c hP hfn; simp only [kc21, vT, cT, vcb, ↓evSo_some, ↓reduceIte, reduceCtorEq, seval]
  repeat' first
      | (first
          | refine TR.p hP (by first | exact s38 t) (by repeat' first | exact trivial | (intro _; assumption) | apply And.intro) ?_
          | refine TR.gp hP rfl (fun _ => by first | exact s38 t) (fun _ => by repeat' first | exact trivial | (intro _; assumption) | apply And.intro) ?_
          | refine TR.pv hP rfl (by first | exact s38 t) trivial (by repeat' first | exact trivial | (intro _; assumption) | apply And.intro) ?_
         try simp only [vcb, ↓evSo_some, ↓reduceIte, reduceCtorEq, seval])
      | refine And.intro (fun h => ?_) (fun h => ?_)
      | refine And.intro (by first | omega | (simp only [maxLen, decide_eq_true_eq, decide_eq_false_iff_not] at *; omega)) ?_
      | (refine TR.aslO rfl rfl rfl rfl trivial (Nat.le_of_ble_eq_true rfl) ?_
         try simp only [vcb, ↓evSo_some, ↓reduceIte, reduceCtorEq, seval])
      | refine And.intro trivial ?_
      | refine And.intro rfl ?_
      | fail
  all_goals exact RetK.pure (by simp only [rs21, rsb, vcb, ↓evSo_some, ↓reduceIte, reduceCtorEq, seval]) (by (simp only [rs21, rsb, vcb, ↓evSo_some, ↓reduceIte, reduceCtorEq, seval, enb, vcb, ↓evSo_some, ↓reduceIte, reduceCtorEq, seval]) <;> (first | (simp [*, roomT, highT]; done) | (simp_all [roomT, highT]; done) | (simp only [roomT, highT]; grind)))
theorem s52 (f t : Int) : Ctr Try.prog 62 [vS f t] [] (.d (.bool (okS f t))) [] [] := by
  refine ctr_pure Try.func62 ok62 rfl cc62 cr62 Try.ntmps62 (by simp) rfl rfl ?_; intro c hP hfn; simp only [kc62, vS, vcb, ↓evSo_some, ↓reduceIte, reduceCtorEq, seval]
  exact RetK.pure (by simp only [rs62, rsb, vcb, ↓evSo_some, ↓reduceIte, reduceCtorEq, seval]) (by simp only [rs62, rsb, vcb, ↓evSo_some, ↓reduceIte, reduceCtorEq, seval, enb, vcb, ↓evSo_some, ↓reduceIte, reduceCtorEq, seval, okS])
theorem manyR_eq (f t : Int) : manyR f t = if okS f t = true then IntKind.i64.wrap (t - f) else 0 := by
  unfold manyR keptR
  by_cases h : okS f t = true
  · by_cases h2 : f = t
    · subst h2; simp [h]
    · simp [h, h2]
  · simp [h, wI]
theorem s44 (f t : Int) : Ctr Try.prog 56 [vS f t] [] (.d (.int .i64 (manyR f t))) [] [] := by
  refine ctr_pure Try.func56 ok56 rfl cc56 cr56 Try.ntmps56 (by simp) rfl rfl ?_; intro c hP hfn; simp only [kc56, vS, vcb, ↓evSo_some, ↓reduceIte, reduceCtorEq, seval]
  repeat' first
      | (first
          | refine TR.p hP (by first | exact s52 ..) (by repeat' first | exact trivial | (intro _; assumption) | apply And.intro) ?_
          | refine TR.gp hP rfl (fun _ => by first | exact s52 ..) (fun _ => by repeat' first | exact trivial | (intro _; assumption) | apply And.intro) ?_
          | refine TR.pv hP rfl (by first | exact s52 ..) trivial (by repeat' first | exact trivial | (intro _; assumption) | apply And.intro) ?_
         try simp only [vcb, ↓evSo_some, ↓reduceIte, reduceCtorEq, seval])
      | refine And.intro (fun h => ?_) (fun h => ?_)
      | refine And.intro (by first | omega | (simp only [maxLen, decide_eq_true_eq, decide_eq_false_iff_not] at *; omega)) ?_
      | (refine TR.aslO rfl rfl rfl rfl trivial (Nat.le_of_ble_eq_true rfl) ?_
         try simp only [vcb, ↓evSo_some, ↓reduceIte, reduceCtorEq, seval])
      | refine And.intro trivial ?_
      | refine And.intro rfl ?_
      | fail
  all_goals exact RetK.pure (by simp only [rs56, rsb, vcb, ↓evSo_some, ↓reduceIte, reduceCtorEq, seval]) (by (simp only [rs56, rsb, vcb, ↓evSo_some, ↓reduceIte, reduceCtorEq, seval, enb, vcb, ↓evSo_some, ↓reduceIte, reduceCtorEq, seval]) <;> (first | (simp [*, manyR_eq]; done) | (simp_all [manyR_eq]; done) | (simp only [manyR_eq]; grind)))
theorem inS_eq (f t d : Int) : inS f t d = (okS f t && decide (f ≤ d) && decide (d < t)) := by
  unfold inS keptR
  by_cases h : okS f t = true
  · by_cases h2 : f = t
    · subst h2; simp only [h, beq_self_eq_true, Bool.or_true, if_true, Bool.true_and]; rw [Bool.eq_iff_iff]; simp; omega
    · simp [h, h2]
  · simp only [h, Bool.not_false, Bool.true_or, if_true, Bool.false_and, Bool.and_eq_false_iff, decide_eq_false_iff_not]; omega
theorem s45 (f t d : Int) : Ctr Try.prog 50 [vS f t, .d (.int .i64 d)] [] (.d (.bool (inS f t d))) [] [] := by
  refine ctr_pure Try.func50 ok50 rfl cc50 cr50 Try.ntmps50 (by simp) rfl rfl ?_; intro c hP hfn; simp only [kc50, vS, vcb, ↓evSo_some, ↓reduceIte, reduceCtorEq, seval]
  repeat' first
      | (first
          | refine TR.p hP (by first | exact s52 ..) (by repeat' first | exact trivial | (intro _; assumption) | apply And.intro) ?_
          | refine TR.gp hP rfl (fun _ => by first | exact s52 ..) (fun _ => by repeat' first | exact trivial | (intro _; assumption) | apply And.intro) ?_
          | refine TR.pv hP rfl (by first | exact s52 ..) trivial (by repeat' first | exact trivial | (intro _; assumption) | apply And.intro) ?_
         try simp only [vcb, ↓evSo_some, ↓reduceIte, reduceCtorEq, seval])
      | refine And.intro (fun h => ?_) (fun h => ?_)
      | refine And.intro (by first | omega | (simp only [maxLen, decide_eq_true_eq, decide_eq_false_iff_not] at *; omega)) ?_
      | (refine TR.aslO rfl rfl rfl rfl trivial (Nat.le_of_ble_eq_true rfl) ?_
         try simp only [vcb, ↓evSo_some, ↓reduceIte, reduceCtorEq, seval])
      | refine And.intro trivial ?_
      | refine And.intro rfl ?_
      | fail
  all_goals exact RetK.pure (by simp only [rs50, rsb, vcb, ↓evSo_some, ↓reduceIte, reduceCtorEq, seval]) (by (simp only [rs50, rsb, vcb, ↓evSo_some, ↓reduceIte, reduceCtorEq, seval, enb, vcb, ↓evSo_some, ↓reduceIte, reduceCtorEq, seval]) <;> (first | (simp [*, inS_eq]; done) | (simp_all [inS_eq]; done) | (simp only [inS_eq]; grind)))
theorem s43 (x lo hi : Int) : Ctr Try.prog 55 [.d (.int .i64 x), .d (.int .i64 lo), .d (.int .i64 hi)] [] (.d (.bool (inB lo hi x))) [] [] := by
  refine ctr_pure Try.func55 ok55 rfl cc55 cr55 Try.ntmps55 (by simp) rfl rfl ?_; intro c hP hfn; simp only [kc55, vcb, ↓evSo_some, ↓reduceIte, reduceCtorEq, seval]
  all_goals exact RetK.pure (by simp only [rs55, rsb, vcb, ↓evSo_some, ↓reduceIte, reduceCtorEq, seval]) (by (simp only [rs55, rsb, vcb, ↓evSo_some, ↓reduceIte, reduceCtorEq, seval, enb, vcb, ↓evSo_some, ↓reduceIte, reduceCtorEq, seval]) <;> (first | (simp [*, inB]; done) | (simp_all [inB]; done) | (simp only [inB]; grind)))
theorem s29 (x : Ls) : Ctr Try.prog 33 [vX x] [] (.d (.bool (lossX x))) [] [] := by
  refine ctr_pure Try.func33 ok33 rfl cc33 cr33 Try.ntmps33 (by simp) rfl rfl ?_; intro c hP hfn; simp only [kc33, vX, cX', vcb, ↓evSo_some, ↓reduceIte, reduceCtorEq, seval]
  repeat' first
      | (first
          | refine TR.p hP (by first | exact s43 ..) (by repeat' first | exact trivial | (intro _; assumption) | apply And.intro) ?_
          | refine TR.gp hP rfl (fun _ => by first | exact s43 ..) (fun _ => by repeat' first | exact trivial | (intro _; assumption) | apply And.intro) ?_
          | refine TR.pv hP rfl (by first | exact s43 ..) trivial (by repeat' first | exact trivial | (intro _; assumption) | apply And.intro) ?_
         try simp only [vcb, ↓evSo_some, ↓reduceIte, reduceCtorEq, seval])
      | refine And.intro (fun h => ?_) (fun h => ?_)
      | refine And.intro (by first | omega | (simp only [maxLen, decide_eq_true_eq, decide_eq_false_iff_not] at *; omega)) ?_
      | (refine TR.aslO rfl rfl rfl rfl trivial (Nat.le_of_ble_eq_true rfl) ?_
         try simp only [vcb, ↓evSo_some, ↓reduceIte, reduceCtorEq, seval])
      | refine And.intro trivial ?_
      | refine And.intro rfl ?_
      | fail
  all_goals exact RetK.pure (by simp only [rs33, rsb, vcb, ↓evSo_some, ↓reduceIte, reduceCtorEq, seval]) (by (simp only [rs33, rsb, vcb, ↓evSo_some, ↓reduceIte, reduceCtorEq, seval, enb, vcb, ↓evSo_some, ↓reduceIte, reduceCtorEq, seval]) <;> (first | (simp [*, lossX]; done) | (simp_all [lossX]; done) | (simp only [lossX]; grind)))
theorem s27 (t : Tr) : Ctr Try.prog 32 [vT t] [] (.d (.bool (rightT t))) [] [] := by
  refine ctr_pure Try.func32 ok32 rfl cc32 cr32 Try.ntmps32 (by simp) rfl rfl ?_; intro c hP hfn; simp only [kc32, vT, cT, vcb, ↓evSo_some, ↓reduceIte, reduceCtorEq, seval]
  repeat' first
      | (first
          | refine TR.p hP (by first | exact s43 .. | exact s44 ..) (by repeat' first | exact trivial | (intro _; assumption) | apply And.intro) ?_
          | refine TR.gp hP rfl (fun _ => by first | exact s43 .. | exact s44 ..) (fun _ => by repeat' first | exact trivial | (intro _; assumption) | apply And.intro) ?_
          | refine TR.pv hP rfl (by first | exact s43 .. | exact s44 ..) trivial (by repeat' first | exact trivial | (intro _; assumption) | apply And.intro) ?_
         try simp only [vcb, ↓evSo_some, ↓reduceIte, reduceCtorEq, seval])
      | refine And.intro (fun h => ?_) (fun h => ?_)
      | refine And.intro (by first | omega | (simp only [maxLen, decide_eq_true_eq, decide_eq_false_iff_not] at *; omega)) ?_
      | (refine TR.aslO rfl rfl rfl rfl trivial (Nat.le_of_ble_eq_true rfl) ?_
         try simp only [vcb, ↓evSo_some, ↓reduceIte, reduceCtorEq, seval])
      | refine And.intro trivial ?_
      | refine And.intro rfl ?_
      | fail
  all_goals exact RetK.pure (by simp only [rs32, rsb, vcb, ↓evSo_some, ↓reduceIte, reduceCtorEq, seval]) (by (simp only [rs32, rsb, vcb, ↓evSo_some, ↓reduceIte, reduceCtorEq, seval, enb, vcb, ↓evSo_some, ↓reduceIte, reduceCtorEq, seval]) <;> (first | rw [Bool.eq_iff_iff]; simp_all [rightT, inB]; done | (rw [Bool.eq_iff_iff]; simp_all [rightT, inB]; omega)))
def perilN : Nat → Int → Int
  | 0, a => a
  | n + 1, a => perilN n (IntKind.i64.wrap (a.tdiv 2))
theorem s46 (per p : Int) (hp : p ≤ 9223372036854775807) : Ctr Try.prog 51 [.d (.int .i64 per), .d (.int .i64 p)] [] (.d (.bool ((perilN p.toNat per).tmod 2 == 1))) [] [] := by
  refine ctr_pure Try.func51 ok51 rfl cc51 cr51 Try.ntmps51 (by simp) rfl rfl ?_; intro c hP hfn; simp only [kc51, vcb, ↓evSo_some, ↓reduceIte, reduceCtorEq, seval]
  refine vcC.loop (X := Nat × Int) (fun x => ⟨[(0, .d (.int .i64 x.2)), (1, .d (.int .i64 p)), (5, .d (.int .i64 x.1))], [], []⟩)
    (fun x => x.1 ≤ p.toNat ∧ perilN p.toNat per = perilN (p.toNat - x.1) x.2) (fun x => p.toNat - x.1) (0, per) ⟨Nat.zero_le _, rfl⟩ (Wk.of [] hfn rfl (by simp only [enb, vcb, ↓evSo_some, ↓reduceIte, reduceCtorEq, seval]) (by simp only [enb, vcb, ↓evSo_some, ↓reduceIte, reduceCtorEq, seval])) ?_
  rintro ⟨k, a⟩ ⟨hk, he⟩
  simp only at hk he
  simp only [vcb, ↓evSo_some, ↓reduceIte, reduceCtorEq, seval]
  refine ⟨fun h1 => ?_, fun h1 => ?_⟩
  · have hlt : (k : Int) < p := of_decide_eq_true h1
    have e : p.toNat - k = (p.toNat - (k + 1)) + 1 := by omega
    rw [e, perilN] at he
    repeat' first
        | refine And.intro (fun h => ?_) (fun h => ?_)
        | refine And.intro (by first | omega | (simp only [maxLen, decide_eq_true_eq, decide_eq_false_iff_not] at *; omega)) ?_
        | (refine TR.aslO rfl rfl rfl rfl trivial (Nat.le_of_ble_eq_true rfl) ?_
           try simp only [vcb, ↓evSo_some, ↓reduceIte, reduceCtorEq, seval])
        | refine And.intro trivial ?_
        | refine And.intro rfl ?_
        | fail
    exact lopK.on (k + 1, IntKind.i64.wrap (a.tdiv 2)) ⟨by simp only; omega, he⟩ (by simp only; omega) (Wk.of [] hfn rfl (by simp only [enb, vcb, ↓evSo_some, ↓reduceIte, reduceCtorEq, seval]; exact wS (by omega)) (by simp only [enb, vcb, ↓evSo_some, ↓reduceIte, reduceCtorEq, seval]))
  · have hlt : ¬ (k : Int) < p := of_decide_eq_false h1
    have e : p.toNat - k = 0 := by omega
    rw [e, perilN] at he
    repeat' first
        | refine And.intro (fun h => ?_) (fun h => ?_)
        | refine And.intro (by first | omega | (simp only [maxLen, decide_eq_true_eq, decide_eq_false_iff_not] at *; omega)) ?_
        | (refine TR.aslO rfl rfl rfl rfl trivial (Nat.le_of_ble_eq_true rfl) ?_
           try simp only [vcb, ↓evSo_some, ↓reduceIte, reduceCtorEq, seval])
        | refine And.intro trivial ?_
        | refine And.intro rfl ?_
        | fail
    exact RetK.pure (by simp only [rs51, rsb, vcb, ↓evSo_some, ↓reduceIte, reduceCtorEq, seval]) (by (simp only [rs51, rsb, vcb, ↓evSo_some, ↓reduceIte, reduceCtorEq, seval, enb, vcb, ↓evSo_some, ↓reduceIte, reduceCtorEq, seval]) <;> (first | rw [he]))
theorem bitB_all : ((List.range 256).all fun m => (List.range 8).all fun p => bitB (m : Int) (p : Int) == ((perilN p (m : Int)).tmod 2 == 1)) = true := by decide +kernel
theorem bitB_eq {per p : Int} (h1 : 0 ≤ per) (h2 : per ≤ 255) (h3 : 0 ≤ p) (h4 : p ≤ 7) : bitB per p = ((perilN p.toNat per).tmod 2 == 1) := by
  have h := List.all_eq_true.1 (List.all_eq_true.1 bitB_all per.toNat (by simp; omega)) p.toNat (by simp; omega)
  have e1 : (per.toNat : Int) = per := by omega
  have e2 : (p.toNat : Int) = p := by omega
  rw [e1, e2] at h
  exact eq_of_beq h
theorem rightT_per {t : Tr} (h : rightT t = true) : 1 ≤ t.per ∧ t.per ≤ 255 := by
  simp only [rightT, Bool.and_eq_true, Bool.not_eq_true', Bool.or_eq_false_iff, Bool.not_eq_false', inB_iff] at h
  exact h.1.2
theorem takesT_eq (t : Tr) (x : Ls) : takesT t x = (rightT t && lossX x && inS t.sf t.st x.day && ((perilN x.per.toNat t.per).tmod 2 == 1)) := by
  unfold takesT
  by_cases h : (rightT t && lossX x && inS t.sf t.st x.day) = true
  · have h' := h
    simp only [Bool.and_eq_true, lossX_iff] at h'
    have := rightT_per h'.1.1
    rw [bitB_eq (by omega) (by omega) (by omega) (by omega)]
  · simp only [h, Bool.false_and]
theorem s30 (t : Tr) (x : Ls) (hx : x.per ≤ 9223372036854775807) : Ctr Try.prog 28 [vT t, vX x] [] (.d (.bool (takesT t x))) [] [] := by
  refine ctr_pure Try.func28 ok28 rfl cc28 cr28 Try.ntmps28 (by simp) rfl rfl ?_; intro c hP hfn; simp only [kc28, vT, vX, cT, cX', vcb, ↓evSo_some, ↓reduceIte, reduceCtorEq, seval]
  repeat' first
      | (first
          | refine TR.p hP (by first | exact s27 t | exact s29 x | exact s45 .. | exact s46 _ _ hx) (by repeat' first | exact trivial | (intro _; assumption) | apply And.intro) ?_
          | refine TR.gp hP rfl (fun _ => by first | exact s27 t | exact s29 x | exact s45 .. | exact s46 _ _ hx) (fun _ => by repeat' first | exact trivial | (intro _; assumption) | apply And.intro) ?_
          | refine TR.pv hP rfl (by first | exact s27 t | exact s29 x | exact s45 .. | exact s46 _ _ hx) trivial (by repeat' first | exact trivial | (intro _; assumption) | apply And.intro) ?_
         try simp only [vcb, ↓evSo_some, ↓reduceIte, reduceCtorEq, seval])
      | refine And.intro (fun h => ?_) (fun h => ?_)
      | refine And.intro (by first | omega | (simp only [maxLen, decide_eq_true_eq, decide_eq_false_iff_not] at *; omega)) ?_
      | (refine TR.aslO rfl rfl rfl rfl trivial (Nat.le_of_ble_eq_true rfl) ?_
         try simp only [vcb, ↓evSo_some, ↓reduceIte, reduceCtorEq, seval])
      | refine And.intro trivial ?_
      | refine And.intro rfl ?_
      | fail
  exact RetK.pure (by simp only [rs28, rsb, vcb, ↓evSo_some, ↓reduceIte, reduceCtorEq, seval]) (by (simp only [rs28, rsb, vcb, ↓evSo_some, ↓reduceIte, reduceCtorEq, seval, enb, vcb, ↓evSo_some, ↓reduceIte, reduceCtorEq, seval]) <;> (first | exact (takesT_eq t x).symm))
theorem s19 (t : Tr) (amt : Int) : Ctr Try.prog 37 [vT t, .d (.int .i64 amt)] [] (.d (.int .i64 (partT t amt))) [] [] := by
  refine ctr_pure Try.func37 ok37 rfl cc37 cr37 Try.ntmps37 (by simp) rfl rfl ?_; intro c hP hfn; simp only [kc37, vT, cT, vcb, ↓evSo_some, ↓reduceIte, reduceCtorEq, seval]
  repeat' first
      | (first
          | refine TR.p hP (by first | exact s27 t) (by repeat' first | exact trivial | (intro _; assumption) | apply And.intro) ?_
          | refine TR.gp hP rfl (fun _ => by first | exact s27 t) (fun _ => by repeat' first | exact trivial | (intro _; assumption) | apply And.intro) ?_
          | refine TR.pv hP rfl (by first | exact s27 t) trivial (by repeat' first | exact trivial | (intro _; assumption) | apply And.intro) ?_
         try simp only [vcb, ↓evSo_some, ↓reduceIte, reduceCtorEq, seval])
      | refine And.intro (fun h => ?_) (fun h => ?_)
      | refine And.intro (by first | omega | (simp only [maxLen, decide_eq_true_eq, decide_eq_false_iff_not] at *; omega)) ?_
      | (refine TR.aslO rfl rfl rfl rfl trivial (Nat.le_of_ble_eq_true rfl) ?_
         try simp only [vcb, ↓evSo_some, ↓reduceIte, reduceCtorEq, seval])
      | refine And.intro trivial ?_
      | refine And.intro rfl ?_
      | fail
  all_goals exact RetK.pure (by simp only [rs37, rsb, vcb, ↓evSo_some, ↓reduceIte, reduceCtorEq, seval]) (by (simp only [rs37, rsb, vcb, ↓evSo_some, ↓reduceIte, reduceCtorEq, seval, enb, vcb, ↓evSo_some, ↓reduceIte, reduceCtorEq, seval]) <;> (first | simp_all [partT, highT]; done | (simp_all [partT, highT]; omega)))
theorem s21 (t : Tr) : Ctr Try.prog 34 [vT t] [] (.d (.int .i64 (roomT t))) [] [] := by
  refine ctr_pure Try.func34 ok34 rfl cc34 cr34 Try.ntmps34 (by simp) rfl rfl ?_; intro c hP hfn; simp only [kc34, vT, cT, vcb, ↓evSo_some, ↓reduceIte, reduceCtorEq, seval]
  repeat' first
      | (first
          | refine TR.p hP (by first | exact s27 t) (by repeat' first | exact trivial | (intro _; assumption) | apply And.intro) ?_
          | refine TR.gp hP rfl (fun _ => by first | exact s27 t) (fun _ => by repeat' first | exact trivial | (intro _; assumption) | apply And.intro) ?_
          | refine TR.pv hP rfl (by first | exact s27 t) trivial (by repeat' first | exact trivial | (intro _; assumption) | apply And.intro) ?_
         try simp only [vcb, ↓evSo_some, ↓reduceIte, reduceCtorEq, seval])
      | refine And.intro (fun h => ?_) (fun h => ?_)
      | refine And.intro (by first | omega | (simp only [maxLen, decide_eq_true_eq, decide_eq_false_iff_not] at *; omega)) ?_
      | (refine TR.aslO rfl rfl rfl rfl trivial (Nat.le_of_ble_eq_true rfl) ?_
         try simp only [vcb, ↓evSo_some, ↓reduceIte, reduceCtorEq, seval])
      | refine And.intro trivial ?_
      | refine And.intro rfl ?_
      | fail
  · exact RetK.pure (by simp only [rs34, rsb, vcb, ↓evSo_some, ↓reduceIte, reduceCtorEq, seval]) (by (simp only [rs34, rsb, vcb, ↓evSo_some, ↓reduceIte, reduceCtorEq, seval, enb, vcb, ↓evSo_some, ↓reduceIte, reduceCtorEq, seval]) <;> (first | simp_all [roomT, highT]; done | (simp_all [roomT, highT]; omega)))
  · have hh : highT t = true := by simp_all [highT]
    have hb := high_bounds hh
    have h1 : 0 ≤ t.wid * t.aga := Int.mul_nonneg (by omega) (by omega)
    have h2 : t.wid * t.aga ≤ 1000000000000000 * 100 := Int.mul_le_mul (by omega) (by omega) (by omega) (by omega)
    exact RetK.pure (by simp only [rs34, rsb, vcb, ↓evSo_some, ↓reduceIte, reduceCtorEq, seval]) (by (simp only [rs34, rsb, vcb, ↓evSo_some, ↓reduceIte, reduceCtorEq, seval, enb, vcb, ↓evSo_some, ↓reduceIte, reduceCtorEq, seval]) <;> (first | rw [roomT, hh, wI (a := t.wid * t.aga) (by omega), wI (a := 1 + t.aga) (by omega), Int.mul_add, Int.mul_one]; simp))
theorem s17 (a b : List Int) (ha : a.length ≤ 9223372036854775807) : Ctr Try.prog 19 [.d (slK .i64 a), .d (slK .i64 b)] [] (.d (.bool (decide (a = b)))) [] [] := by
  refine ctr_pure Try.func19 ok19 rfl cc19 cr19 Try.ntmps19 (by simp) rfl rfl ?_; intro c hP hfn; simp only [kc19, vcb, ↓evSo_some, ↓reduceIte, reduceCtorEq, seval]
  refine ⟨fun h => ?_, fun h => ?_⟩
  · have hn : a ≠ b := by rintro rfl; simp at h
    exact RetK.pure (by simp only [rs19, rsb, vcb, ↓evSo_some, ↓reduceIte, reduceCtorEq, seval]) (by (simp only [rs19, rsb, vcb, ↓evSo_some, ↓reduceIte, reduceCtorEq, seval, enb, vcb, ↓evSo_some, ↓reduceIte, reduceCtorEq, seval]) <;> (first | simp [hn]))
  have hab : a.length = b.length := by have h := eq_of_beq (show ((a.length : Int) == b.length) = true by simpa using h); omega
  refine vcC.loop (X := Nat) (fun k => ⟨[(0, .d (slK .i64 a)), (1, .d (slK .i64 b)), (5, .d (.int .i64 k))], [], []⟩)
    (fun k => k ≤ a.length ∧ (a = b ↔ a.drop k = b.drop k)) (fun k => a.length - k) 0 ⟨Nat.zero_le _, by simp⟩ (Wk.of [] hfn rfl (by (simp only [enb, vcb, ↓evSo_some, ↓reduceIte, reduceCtorEq, seval]) <;> (first | exact wS (by omega) | (rw [List.length_append]; exact wS (by omega)) | assumption)) (by simp only [enb, vcb, ↓evSo_some, ↓reduceIte, reduceCtorEq, seval])) ?_
  rintro k ⟨hk, he⟩
  simp only [vcb, ↓evSo_some, ↓reduceIte, reduceCtorEq, seval]
  refine ⟨fun h1 => ?_, fun h1 => ?_⟩
  · have hlt : k < a.length := by have := of_decide_eq_true h1; omega
    obtain ⟨x, hd, hg, -, -⟩ := drop_at hlt
    obtain ⟨y, hd2, hg2, -, -⟩ := drop_at (hab ▸ hlt)
    simp only [hg, hg2]
    rw [hd, hd2] at he
    repeat' first
        | refine And.intro (fun h => ?_) (fun h => ?_)
        | refine And.intro (by first | omega | (simp only [maxLen, decide_eq_true_eq, decide_eq_false_iff_not] at *; omega)) ?_
        | (refine TR.aslO rfl rfl rfl rfl trivial (Nat.le_of_ble_eq_true rfl) ?_
           try simp only [vcb, ↓evSo_some, ↓reduceIte, reduceCtorEq, seval])
        | refine And.intro trivial ?_
        | refine And.intro rfl ?_
        | fail
    · have hn : a ≠ b := fun e => by have := he.1 e; simp at this; simp [this.1] at h
      exact RetK.pure (by simp only [rs19, rsb, vcb, ↓evSo_some, ↓reduceIte, reduceCtorEq, seval]) (by (simp only [rs19, rsb, vcb, ↓evSo_some, ↓reduceIte, reduceCtorEq, seval, enb, vcb, ↓evSo_some, ↓reduceIte, reduceCtorEq, seval]) <;> (first | simp [hn]))
    · refine lopK.on (k + 1) ⟨hlt, ?_⟩ (by omega) (Wk.of [] hfn rfl (by (simp only [enb, vcb, ↓evSo_some, ↓reduceIte, reduceCtorEq, seval]) <;> (first | exact wS (by omega) | (rw [List.length_append]; exact wS (by omega)) | assumption)) (by simp only [enb, vcb, ↓evSo_some, ↓reduceIte, reduceCtorEq, seval]))
      have hxy : x = y := by simpa using h
      rw [he, hxy]; simp
  · have hkl : k = a.length := by have := of_decide_eq_false h1; omega
    have : a = b := he.2 (by rw [hkl]; simp [hab])
    exact RetK.pure (by simp only [rs19, rsb, vcb, ↓evSo_some, ↓reduceIte, reduceCtorEq, seval]) (by (simp only [rs19, rsb, vcb, ↓evSo_some, ↓reduceIte, reduceCtorEq, seval, enb, vcb, ↓evSo_some, ↓reduceIte, reduceCtorEq, seval]) <;> (first | simp [this]))
theorem roomT_eq (t : Tr) : roomT t = (if highT t = true then t.wid * (1 + t.aga) else 0) ∧ 0 ≤ roomT t ∧ roomT t ≤ 101000000000000000 := by
  unfold roomT
  by_cases h : highT t = true
  · have hb := high_bounds h
    have h1 : 0 ≤ t.wid * (1 + t.aga) := Int.mul_nonneg (by omega) (by omega)
    have h2 : t.wid * (1 + t.aga) ≤ 1000000000000000 * 101 := Int.mul_le_mul (by omega) (by omega) (by omega) (by omega)
    rw [if_neg (by simp [h]), if_pos h, wI (a := 1 + t.aga) (by omega), wI (by omega)]
    exact ⟨rfl, h1, by omega⟩
  · rw [if_pos (by simp [h]), if_neg h]; omega
end Go.Proofs.Ytkifajabiggfmaa
end
section
set_option linter.unusedSimpArgs false
set_option linter.unusedVariables false
namespace Go.Proofs.Ytkifajabiggfmaa
set_option linter.unusedSimpArgs false
set_option linter.unusedVariables false
open Go.ChangeShapes Go.WideShapes Go.ChangeAt Go.RowKit Go.Bx
theorem Try.own : ownKnob Try.prog.godebug = none := by kernel_rfl
theorem Try.laidOut : laidOutB Try.prog = true := by kernel_rfl
def I64 (n : Int) : Prop := -9223372036854775808 ≤ n ∧ n ≤ 9223372036854775807
theorem wf_i64 {n : Int} (h : (Lit.int .i64 n).wf = true) : I64 n := by
  simp only [Lit.wf, Bool.and_eq_true, decide_eq_true_eq] at h
  have e1 : IntKind.i64.min = -9223372036854775808 := by decide +kernel
  have e2 : IntKind.i64.max = 9223372036854775807 := by decide +kernel
  unfold I64; omega
theorem int_reads : Reads Try.prog 3 1 (fun n : Int => [.int .i64 n]) I64 :=
  (Reads.int Try.underlying3 (by kernel_rfl)).map id _ _ (fun _ => rfl) (fun _ => rfl) (fun _ h => wf_i64 h)
theorem span_reads : Reads Try.prog 34 2 (fun l : Int × Int => [.int .i64 l.1, .int .i64 l.2]) (fun l => I64 l.1 ∧ I64 l.2) :=
  (Reads.struct Try.underlying34 (FR.cons rfl int_reads (FR.cons rfl int_reads FR.nil)) (by kernel_rfl)).map (fun x => (x.1, x.2.1)) _ _ (fun _ => rfl) (fun _ => rfl) (fun _ h => ⟨h.1, h.2.1⟩)
def okX (x : Ls) : Prop := I64 x.cl ∧ I64 x.ev ∧ I64 x.day ∧ I64 x.per ∧ I64 x.amt
def okT (t : Tr) : Prop := I64 t.id ∧ I64 t.kind ∧ I64 t.sf ∧ I64 t.st ∧ I64 t.bp ∧ I64 t.att ∧ I64 t.wid ∧ I64 t.aga ∧ I64 t.per
theorem loss_reads : Reads Try.prog 26 5 (fun x : Ls => [.int .i64 x.cl, .int .i64 x.ev, .int .i64 x.day, .int .i64 x.per, .int .i64 x.amt]) okX :=
  (Reads.struct Try.underlying26 (FR.cons rfl int_reads (FR.cons rfl int_reads (FR.cons rfl int_reads (FR.cons rfl int_reads (FR.cons rfl int_reads FR.nil))))) (by kernel_rfl)).map (fun x => ⟨x.1, x.2.1, x.2.2.1, x.2.2.2.1, x.2.2.2.2.1⟩) _ _ (fun _ => rfl) (fun _ => rfl) (fun _ h => ⟨h.1, h.2.1, h.2.2.1, h.2.2.2.1, h.2.2.2.2.1⟩)
theorem losses_reads : Reads Try.prog 22 1 (fun l : List Ls => [slX l]) (fun l => l.length ≤ 9223372036854775807 ∧ ∀ x, x ∈ l → okX x) :=
  (loss_reads.slice Try.underlying22 (by kernel_rfl) (by decide)).map id _ _ (fun _ => rfl) (fun _ => rfl) (fun _ h => h)
theorem treaty_reads : Reads Try.prog 36 9 (fun t : Tr => [.int .i64 t.id, .int .i64 t.kind, .int .i64 t.sf, .int .i64 t.st, .int .i64 t.bp, .int .i64 t.att, .int .i64 t.wid, .int .i64 t.aga, .int .i64 t.per]) okT :=
  (Reads.struct Try.underlying36 (FR.cons rfl int_reads (FR.cons rfl int_reads (FR.cons rfl span_reads (FR.cons rfl int_reads (FR.cons rfl int_reads (FR.cons rfl int_reads (FR.cons rfl int_reads (FR.cons rfl int_reads FR.nil)))))))) (by kernel_rfl)).map (fun x => ⟨x.1, x.2.1, x.2.2.1.1, x.2.2.1.2, x.2.2.2.1, x.2.2.2.2.1, x.2.2.2.2.2.1, x.2.2.2.2.2.2.1, x.2.2.2.2.2.2.2.1⟩) _ _ (fun _ => rfl) (fun _ => rfl) (fun _ h => ⟨h.1, h.2.1, h.2.2.1.1, h.2.2.1.2, h.2.2.2.1, h.2.2.2.2.1, h.2.2.2.2.2.1, h.2.2.2.2.2.2.1, h.2.2.2.2.2.2.2.1⟩)
end Go.Proofs.Ytkifajabiggfmaa
end
section
set_option linter.unusedSimpArgs false
set_option linter.unusedVariables false
namespace Go.Proofs.Ytkifajabiggfmaa
set_option linter.unusedSimpArgs false
set_option linter.unusedVariables false
open Go.Bx
set_option maxRecDepth 10000
def cI (n : Int) : List D := [.int .i64 n]
structure EvS where
  G : List (List Int)
  kn : Int → Int
def evStep (t : Tr) (k : Int) (x : Ls) (s : EvS) : EvS :=
  if takesT t x = true then
    if x.ev ≠ 0 ∧ 0 < s.kn x.ev then ⟨s.G.set (s.kn x.ev - 1).toNat (s.G.getD (s.kn x.ev - 1).toNat [] ++ [k]), s.kn⟩
    else ⟨s.G ++ [[k]], fun n => if n = x.ev then ((s.G.length + 1 : Nat) : Int) else s.kn n⟩
  else s
def evRun (t : Tr) : Nat → List Ls → EvS → EvS
  | _, [], s => s
  | k, x :: r, s => evRun t (k + 1) r (evStep t (k : Int) x s)
def eventsT (t : Tr) (l : List Ls) : List (List Int) := (evRun t 0 l ⟨[], fun _ => 0⟩).G
structure EvI (k : Nat) (s : EvS) : Prop where
  kn : ∀ n, 0 ≤ s.kn n ∧ s.kn n ≤ s.G.length
  len : s.G.length ≤ k
  each : ∀ g, g ∈ s.G → 1 ≤ g.length ∧ g.length ≤ k
theorem EvI.step {k : Nat} {s : EvS} (h : EvI k s) (t : Tr) (x : Ls) : EvI (k + 1) (evStep t (k : Int) x s) := by
  unfold evStep
  split
  · split
    · rename_i hc
      have hb := h.kn x.ev
      have hlt : (s.kn x.ev - 1).toNat < s.G.length := by omega
      have hg : s.G[(s.kn x.ev - 1).toNat] ∈ s.G := List.getElem_mem hlt
      refine ⟨fun n => by simpa using h.kn n, by simp; have := h.len; omega, fun g hg' => ?_⟩
      rcases List.mem_or_eq_of_mem_set hg' with h1 | h1
      · have := h.each g h1; omega
      · subst h1
        have h2 := h.each _ hg
        rw [List.getD_eq_getElem?_getD, List.getElem?_eq_getElem hlt, List.length_append, List.length_singleton, Option.getD_some]
        omega
    · refine ⟨fun n => ?_, by simp; have := h.len; omega, fun g hg' => ?_⟩
      · dsimp only
        have := h.kn n
        split <;> simp <;> omega
      · rw [List.mem_append] at hg'
        rcases hg' with h1 | h1
        · have := h.each g h1; omega
        · simp at h1; subst h1; simp
  · exact ⟨h.kn, by have := h.len; omega, fun g hg => by have := h.each g hg; omega⟩
def evSt (t : Tr) (l : List Ls) (k : Nat) (s : EvS) : St :=
  ⟨[(2, .own 2 0), (5, .osl 1000), (6, .osl 10), (11, .d (slX l)), (12, .d (.int .i64 l.length)), (13, .d (.int .i64 k))],
   (1000, .lit 32 1 s.G.length (nestC 0 cI 5000 1 1 0 s.G)) :: ([(2, .fix (cT t)), (10, .mp (.int .i64 0) (fun n => .int .i64 (s.kn n)))] ++ nestO 0 cI 5000 1 3 1 0 s.G), [1000, 2, 10] ++ nmN 5000 s.G.length⟩
theorem nest_at {G : List (List Int)} {i : Nat} {g : List Int} (h : G[i]? = some g) (hg : 1 < g.length) : own? (nestO 0 cI 5000 1 3 1 0 G) (5000 + i) = some (.row 3 1 g.length (fun j => cI (g.getD j 0))) := by
  rw [nestO_own, if_pos (by omega), show 5000 + i - (5000 + 0) = i by omega, h]
  simp only; rw [if_pos hg]
theorem Wk.ev {c : Ctx} {st : St} {t : Tr} {l : List Ls} {k : Nat} {s : EvS} (x y : Nat) (hfn : c.fn = []) (he : EnvLe (renE (Go.Bx.sw x y) st.env) (evSt t l k s).env)
    (hA : OwnLeS (Go.Bx.sw x y) st.own [(2, .fix (cT t)), (10, .mp (.int .i64 0) (fun n => .int .i64 (s.kn n)))])
    (hl : ∃ o', own? st.own (Go.Bx.sw x y 1000) = some o' ∧ OLe (o'.ren (Go.Bx.sw x y)) (.lit 32 1 s.G.length (nestC 0 cI 5000 1 1 0 s.G)))
    (hi : ∀ i g, s.G[i]? = some g → 1 < g.length → ∃ o', own? st.own (Go.Bx.sw x y (5000 + i)) = some o' ∧ OLe (o'.ren (Go.Bx.sw x y)) (.row 3 1 g.length (fun j => cI (g.getD j 0)))) : Wk c st (evSt t l k s) :=
  Wk.nest (dx := 0) (cells := cI) (K := 5000) (K' := 1000) (τ := 1) (e' := 32) (e := 3) (sz := 1) (G := s.G) x y [] hfn (by simp) (by simp) (env := (evSt t l k s).env) (A := [(2, .fix (cT t)), (10, .mp (.int .i64 0) (fun n => .int .i64 (s.kn n)))]) (N := [1000, 2, 10]) rfl rfl he hA hl hi
theorem ne_lo {a i : Nat} (h : a < 5000) : (a = 5000 + i) = False := eq_false (by omega)
theorem ne_hi {a i : Nat} (h : a < 5000) : (5000 + i = a) = False := eq_false (by omega)
theorem own?_delSet {K τ e sz i : Nat} {G : List (List Int)} {a : Nat} {o : Own} (k k1 : Nat) : own? (delO (setO (nestO 0 cI K τ e sz i G) a o) k) k1 = if k1 = k then none else own? (setO (nestO 0 cI K τ e sz i G) a o) k1 := own?_delO (nodup_setO nestO_nodup) k k1
theorem own?_delSet2 {K τ e sz i : Nat} {G : List (List Int)} {a a2 : Nat} {o o2 : Own} (k k1 : Nat) : own? (delO (setO (setO (nestO 0 cI K τ e sz i G) a o) a2 o2) k) k1 = if k1 = k then none else own? (setO (setO (nestO 0 cI K τ e sz i G) a o) a2 o2) k1 := own?_delO (nodup_setO (nodup_setO nestO_nodup)) k k1
theorem VsLe.snoc {x y : V} (h : VLe x y) : ∀ (a : List V), VsLe (a ++ [x]) (a ++ [y])
  | [] => ⟨h, trivial⟩
  | v :: a => ⟨VLe.refl v, VsLe.snoc h a⟩
theorem renL_app (p : Nat → Nat) (a b : List V) : renL p (a ++ b) = renL p a ++ renL p b := by rw [renL_eq, renL_eq, renL_eq, List.map_append]
set_option maxHeartbeats 4000000 in
theorem sEvents (t : Tr) (l : List Ls) (hl : l.length ≤ 1000000) : Ctr Try.prog 15 [vT t, .d (slX l)] [] (.d (.sl false 1 (eventsT t l).length (nestD 0 cI 1 (eventsT t l)))) [] [] := by
  refine ctr_pure Try.func15 ok15 rfl cc15 cr15 Try.ntmps15 (by simp) rfl rfl ?_; intro c hP hfn; simp only [kc15, vT, cT, slX, vcb, ↓evSo_some, ↓reduceIte, reduceCtorEq, seval]
  refine vcC.loop (X := Nat × EvS) (fun x => evSt t l x.1 x.2)
    (fun x => x.1 ≤ l.length ∧ EvI x.1 x.2 ∧ eventsT t l = (evRun t x.1 (l.drop x.1) x.2).G) (fun x => l.length - x.1) (0, ⟨[], fun _ => 0⟩) ⟨Nat.zero_le _, ⟨fun n => by simp, Nat.le_refl _, fun g hg => by simp at hg⟩, rfl⟩
    ((Wk.row0 (s := 5) (k := 1000) (e := 32) (sz := 1) (f' := fun _ => []) rfl rfl (by simp)).trans (Wk.of (b := evSt t l 0 ⟨[], fun _ => 0⟩) _ hfn rfl (by simp only [evSt, slX, enb, vcb, ↓evSo_some, ↓reduceIte, reduceCtorEq, seval]) (by simp only [evSt, cT, nestC, nestO, enb, vcb, ↓evSo_some, ↓reduceIte, reduceCtorEq, seval]; exact OLe.rowLit rfl))) ?_
  rintro ⟨k, s⟩ ⟨hk, hI, he⟩
  simp only at hk hI he
  simp only [evSt, cT, slX, own?_setO, own?_nestD, mem_nmN, vcb, ↓evSo_some, ↓reduceIte, reduceCtorEq, seval]
  refine ⟨fun h1 => ?_, fun h1 => ?_⟩
  · have hlt : k < l.length := by have := of_decide_eq_true h1; omega
    obtain ⟨x, hd, hg, -, -⟩ := drop_at hlt
    rw [hd, evRun] at he
    have hI' := hI.step t x
    have ct := s23 t x
    simp only [vT, cT, vX, cX'] at ct
    simp only [hg, own?_setO, own?_nestD, mem_nmN, vcb, ↓evSo_some, ↓reduceIte, reduceCtorEq, seval]
    repeat' first
        | (first
            | refine TR.p hP (by first | exact ct) (by repeat' first | exact trivial | (intro _; assumption) | apply And.intro) ?_
            | refine TR.gp hP rfl (fun _ => by first | exact ct) (fun _ => by repeat' first | exact trivial | (intro _; assumption) | apply And.intro) ?_
            | refine TR.pv hP rfl (by first | exact ct) trivial (by repeat' first | exact trivial | (intro _; assumption) | apply And.intro) ?_
           try simp only [hg, own?_setO, own?_nestD, mem_nmN, vcb, ↓evSo_some, ↓reduceIte, reduceCtorEq, seval])
        | refine And.intro (fun h => ?_) (fun h => ?_)
        | refine And.intro (by first | omega | (simp only [maxLen, decide_eq_true_eq, decide_eq_false_iff_not] at *; omega)) ?_
        | (refine TR.aslO rfl rfl rfl rfl trivial (Nat.le_of_ble_eq_true rfl) ?_
           try simp only [hg, own?_setO, own?_nestD, mem_nmN, vcb, ↓evSo_some, ↓reduceIte, reduceCtorEq, seval])
        | refine And.intro trivial ?_
        | refine And.intro rfl ?_
        | fail
    · have es : evStep t (k : Int) x s = s := by
        have h' : ¬ takesT t x = true := by simpa using h
        rw [evStep, if_neg h']
      rw [es] at he hI'
      exact lopK.on (k + 1, s) ⟨hlt, hI', he⟩ (by simp only; omega) (Wk.ev (t := t) (l := l) 0 0 hfn (by simp only [evSt, slX, enb, vcb, ↓evSo_some, ↓reduceIte, reduceCtorEq, seval]; exact wS (by omega)) (by simp only [OwnLeS, cT, enb, vcb, ↓evSo_some, ↓reduceIte, reduceCtorEq, seval])
        ⟨.lit 32 1 s.G.length (nestC 0 cI 5000 1 1 0 s.G), by simp only [enb, vcb, ↓evSo_some, ↓reduceIte, reduceCtorEq, seval], by simp only [Own.ren, nest_ren (show 0 < 5000 by decide) (show 0 < 5000 by decide)]; exact OLe.refl _⟩
        (fun i g hg1 hg2 => ⟨.row 3 1 g.length (fun j => cI (g.getD j 0)), by simp only [own?_setO, own?_nestD, own?_delSet, own?_delSet2, ne_lo, ne_hi, nest_at hg1 hg2, enb, vcb, ↓evSo_some, ↓reduceIte, reduceCtorEq, seval], OLe.refl _⟩))
    · have hT : takesT t x = true := by rename_i h8; simpa using h8
      have hc : x.ev ≠ 0 ∧ 0 < s.kn x.ev := by simpa using h
      have ewk : IntKind.i64.wrap ((k : Int) + 1) = ((k + 1 : Nat) : Int) := wS (by omega)
      have hb := hI.kn x.ev
      obtain ⟨i, hi⟩ : ∃ i : Nat, s.kn x.ev - 1 = (i : Int) := ⟨(s.kn x.ev - 1).toNat, by omega⟩
      have hil : i < s.G.length := by omega
      have hl2 := hI.len
      have ew : IntKind.i64.wrap (s.kn x.ev - 1) = (i : Int) := by rw [hi]; exact wI (by omega)
      have hgi : s.G[i]? = some s.G[i] := List.getElem?_eq_getElem hil
      have hgd : s.G.getD i [] = s.G[i] := by rw [List.getD_eq_getElem?_getD, hgi]; rfl
      have hge := hI.each _ (List.getElem_mem hil)
      have hes : evStep t (k : Int) x s = ⟨s.G.set i (s.G[i] ++ [(k : Int)]), s.kn⟩ := by
        rw [evStep, if_pos hT, if_pos hc, hi, Int.toNat_natCast, hgd]
      rw [hes] at he hI'
      generalize s.G[i] = g at *
      have hnth := nestC_nth (dx := (0 : Int)) (cells := cI) (K := 5000) (τ := 1) (sz := 1) (i := 0) hgi
      rw [Nat.zero_add] at hnth
      have hfin : ∀ (st : St), EnvLe (renE (Go.Bx.sw 43 (5000 + i)) st.env) (evSt t l (k + 1) ⟨s.G.set i (g ++ [(k : Int)]), s.kn⟩).env → OwnLeS (Go.Bx.sw 43 (5000 + i)) st.own [(2, .fix (cT t)), (10, .mp (.int .i64 0) (fun n => .int .i64 (s.kn n)))] →
          own? st.own 1000 = some (.lit 32 1 s.G.length (putV (nestC 0 cI 5000 1 1 0 s.G) i [.osl 43])) →
          (∃ n F, own? st.own 43 = some (.row 3 1 n F) ∧ n = g.length + 1 ∧ ∀ q, q < g.length + 1 → F q = cI ((g ++ [(k : Int)]).getD q 0)) →
          (∀ j, j ≠ i → own? st.own (5000 + j) = own? (nestO 0 cI 5000 1 3 1 0 s.G) (5000 + j)) →
          Wk c st (evSt t l (k + 1) ⟨s.G.set i (g ++ [(k : Int)]), s.kn⟩) := by
        intro st q1 q2 q3 q4 q5
        obtain ⟨n, F, q6, rfl, q7⟩ := q4
        have hsw : Go.Bx.sw 43 (5000 + i) 1000 = 1000 := by simp only [Go.Bx.sw, ne_lo, ne_hi, enb, vcb, ↓evSo_some, ↓reduceIte, reduceCtorEq, seval]
        refine Wk.ev 43 (5000 + i) hfn q1 q2 ⟨_, by rw [hsw]; exact q3, ?_⟩ (fun j g' hg1 hg2 => ?_)
        · have hp := putV_nest (dx := (0 : Int)) (cells := cI) (K := 5000) (τ := 1) (sz := 1) (i0 := 0) (i := i) (g := g ++ [(k : Int)]) hil (by simp; omega) 43
          rw [if_pos (by decide), Nat.zero_add] at hp
          simp only [Own.ren, hp, List.length_set]
          exact OLe.refl _
        · by_cases e : j = i
          · subst e
            rw [List.getElem?_set_self hil] at hg1
            cases hg1
            have hsj : Go.Bx.sw 43 (5000 + j) (5000 + j) = 43 := by unfold Go.Bx.sw; rw [if_neg (by omega), if_pos rfl]
            refine ⟨.row 3 1 (g.length + 1) F, by rw [hsj]; exact q6, ?_⟩
            exact OLe.row (by simp) q7
          · rw [List.getElem?_set_ne (fun g => e g.symm)] at hg1
            refine ⟨_, by rw [show Go.Bx.sw 43 (5000 + i) (5000 + j) = 5000 + j by unfold Go.Bx.sw; rw [if_neg (by omega), if_neg (by omega)], q5 j e]; exact nest_at hg1 hg2, OLe.refl _⟩
      by_cases hg1 : g.length ≤ 1
      · rw [if_pos hg1] at hnth
        have hg0 : g.length = 1 := by omega
        simp only [ew, hnth, hg0, own?_setO, own?_nestD, own?_delSet, own?_delSet2, ne_lo, ne_hi, mem_nmN, vcb, ↓evSo_some, ↓reduceIte, reduceCtorEq, seval]
        refine ⟨⟨by omega, by omega⟩, hil, by simp only [maxLen]; omega, ⟨by omega, by omega⟩, hil, lopK.on (k + 1, ⟨s.G.set i (g ++ [(k : Int)]), s.kn⟩) ⟨hlt, hI', he⟩ (by simp only; omega) (hfin _ (by simp only [evSt, slX, ewk, ne_lo, ne_hi, enb, vcb, ↓evSo_some, ↓reduceIte, reduceCtorEq, seval]) (by simp only [OwnLeS, cT, own?_setO, own?_nestD, own?_delSet, own?_delSet2, ne_lo, ne_hi, enb, vcb, ↓evSo_some, ↓reduceIte, reduceCtorEq, seval]) (by simp only [own?_setO, own?_nestD, own?_delSet, own?_delSet2, ne_lo, ne_hi, enb, vcb, ↓evSo_some, ↓reduceIte, reduceCtorEq, seval]) ⟨_, _, by simp only [own?_setO, own?_nestD, own?_delSet, own?_delSet2, ne_lo, ne_hi, enb, vcb, ↓evSo_some, ↓reduceIte, reduceCtorEq, seval]; rfl, by omega, ?_⟩ (fun j hj => ?_))⟩
        · intro q hq
          by_cases e : q < g.length
          · have e3 : q < 1 ∨ 1 ≤ q := by omega
            simp [e, cI, List.getElem?_append_left e]; try omega
          · have e2 : q = g.length := by omega
            have hne : ¬ g = [] := fun h => by rw [h] at hge; simp at hge
            subst e2
            first | (simp [litRow, cI]; done) | (simp [litRow, cI, hne, hg0]; done)
        · have hji : (5000 + j = 5000 + i) = False := eq_false (by omega)
          simp only [hji, own?_setO, own?_nestD, own?_delSet, own?_delSet2, ne_lo, ne_hi, enb, vcb, ↓evSo_some, ↓reduceIte, reduceCtorEq, seval]
      · rw [if_neg hg1] at hnth
        have hrow := nest_at hgi (by omega)
        simp only [ew, hnth, hrow, own?_setO, own?_nestD, own?_delSet, own?_delSet2, ne_lo, ne_hi, mem_nmN, vcb, ↓evSo_some, ↓reduceIte, reduceCtorEq, seval]
        refine ⟨⟨by omega, by omega⟩, hil, ⟨by omega, by simp only [maxLen]; omega⟩, ⟨by omega, by omega⟩, hil, lopK.on (k + 1, ⟨s.G.set i (g ++ [(k : Int)]), s.kn⟩) ⟨hlt, hI', he⟩ (by simp only; omega) (hfin _ (by simp only [evSt, slX, ewk, ne_lo, ne_hi, enb, vcb, ↓evSo_some, ↓reduceIte, reduceCtorEq, seval]) (by simp only [OwnLeS, cT, own?_setO, own?_nestD, own?_delSet, own?_delSet2, ne_lo, ne_hi, enb, vcb, ↓evSo_some, ↓reduceIte, reduceCtorEq, seval]) (by simp only [own?_setO, own?_nestD, own?_delSet, own?_delSet2, ne_lo, ne_hi, enb, vcb, ↓evSo_some, ↓reduceIte, reduceCtorEq, seval]) ⟨_, _, by simp only [own?_setO, own?_nestD, own?_delSet, own?_delSet2, ne_lo, ne_hi, enb, vcb, ↓evSo_some, ↓reduceIte, reduceCtorEq, seval]; rfl, by omega, ?_⟩ (fun j hj => ?_))⟩
        · intro q hq
          by_cases e : q < g.length
          · have e3 : q < 1 ∨ 1 ≤ q := by omega
            simp [e, cI, List.getElem?_append_left e]; try omega
          · have e2 : q = g.length := by omega
            have hne : ¬ g = [] := fun h => by rw [h] at hge; simp at hge
            subst e2
            first | (simp [litRow, cI]; done) | (simp [litRow, cI, hne, hg0]; done)
        · have hji : (5000 + j = 5000 + i) = False := eq_false (by omega)
          simp only [hji, own?_setO, own?_nestD, own?_delSet, own?_delSet2, ne_lo, ne_hi, enb, vcb, ↓evSo_some, ↓reduceIte, reduceCtorEq, seval]
    · have hT : takesT t x = true := by rename_i h8; simpa using h8
      have hc : ¬ (x.ev ≠ 0 ∧ 0 < s.kn x.ev) := by
        intro hh; rw [Bool.and_eq_false_iff] at h
        rcases h with h | h
        · exact hh.1 (by simpa using h)
        · have := of_decide_eq_false h; omega
      have hl2 := hI.len
      have ewk : IntKind.i64.wrap ((k : Int) + 1) = ((k + 1 : Nat) : Int) := wS (by omega)
      have hes : evStep t (k : Int) x s = ⟨s.G ++ [[(k : Int)]], fun n => if n = x.ev then ((s.G.length + 1 : Nat) : Int) else s.kn n⟩ := by
        rw [evStep, if_pos hT, if_neg hc]
      rw [hes] at he hI'
      refine ⟨⟨by omega, by simp only [maxLen]; omega⟩, lopK.on (k + 1, ⟨s.G ++ [[(k : Int)]], fun n => if n = x.ev then ((s.G.length + 1 : Nat) : Int) else s.kn n⟩) ⟨hlt, hI', he⟩ (by simp only; omega)
        (Wk.ev (t := t) (l := l) 49 1000 hfn (by simp only [evSt, slX, ewk, ne_lo, ne_hi, enb, vcb, ↓evSo_some, ↓reduceIte, reduceCtorEq, seval]) (by simp only [OwnLeS, cT, own?_setO, own?_nestD, own?_delSet, own?_delSet2, ne_lo, ne_hi, enb, vcb, ↓evSo_some, ↓reduceIte, reduceCtorEq, seval]; exact OLe.eq (by congr 1; funext n; by_cases e : n = x.ev <;> simp [e]))
          ⟨_, by simp only [own?_setO, own?_nestD, own?_delSet, own?_delSet2, ne_lo, ne_hi, enb, vcb, ↓evSo_some, ↓reduceIte, reduceCtorEq, seval]; rfl, ?_⟩
          (fun j g hg1 hg2 => ?_))⟩
      · have hp := nest_ren (dx := (0 : Int)) (cells := cI) (K := 5000) (τ := 1) (sz := 1) (i := 0) (G := s.G) (show 49 < 5000 by decide) (show 1000 < 5000 by decide)
        simp only [Own.ren, renL_app, hp, nestC_app, List.length_append, List.length_singleton, nestC, renL, V.ren, Nat.le_refl, if_true]
        exact OLe.lits (VsLe.snoc (VLe.sl rfl (fun _ => rfl) id (fun q hq => by
          have : q = 0 := by omega
          subst this; simp [cI, litRow])) _)
      · have hj : s.G[j]? = some g := by
          by_cases e : j < s.G.length
          · rwa [List.getElem?_append_left e] at hg1
          · rw [List.getElem?_append_right (by omega)] at hg1
            have : j - s.G.length = 0 := by
              by_cases e0 : j - s.G.length = 0
              · exact e0
              · rw [List.getElem?_eq_none (by simp; omega)] at hg1; cases hg1
            rw [this] at hg1
            simp at hg1; subst hg1; simp at hg2
        exact ⟨.row 3 1 g.length (fun j => cI (g.getD j 0)), by simp only [own?_setO, own?_nestD, own?_delSet, own?_delSet2, ne_lo, ne_hi, nest_at hj hg2, enb, vcb, ↓evSo_some, ↓reduceIte, reduceCtorEq, seval], OLe.refl _⟩
  · have hkl : k = l.length := by have := of_decide_eq_false h1; omega
    rw [hkl, List.drop_length, evRun] at he
    refine RetK.mk _ ((Wk.nestPub (dx := 0) (cells := cI) (K' := 1000) (K := 5000) (τ := 1) (e' := 32) (e := 3) (sz := 1) (G := s.G) (own' := [(1000, .row 32 1 s.G.length (nestD 0 cI 1 s.G))]) (by simp only [vcb, ↓evSo_some, ↓reduceIte, reduceCtorEq, seval])
        (fun i g hg1 hg2 => by simp only [ne_lo, ne_hi, nest_at hg1 hg2, vcb, ↓evSo_some, ↓reduceIte, reduceCtorEq, seval]) (by simp [keysO]) (fun k o hm => by simp at hm; obtain ⟨rfl, rfl⟩ := hm; exact .inl ⟨rfl, rfl⟩) (fun i hi => by simp [keysO]; omega)).trans (Wk.pub 1000 rfl)) (by simp only [rs15, rsb, vcb, ↓evSo_some, ↓reduceIte, reduceCtorEq, seval]) ?_ trivial
    simp only [rs15, rsb, vcb, ↓evSo_some, ↓reduceIte, reduceCtorEq, seval]
    rw [he]; exact VLe.refl _
end Go.Proofs.Ytkifajabiggfmaa
end
section
set_option linter.unusedSimpArgs false
set_option linter.unusedVariables false
namespace Go.Proofs.Ytkifajabiggfmaa
set_option linter.unusedSimpArgs false
set_option linter.unusedVariables false
open Go.Bx
set_option maxRecDepth 10000
theorem head_app {g : List Int} (h : 1 ≤ g.length) (k : Int) : (g ++ [k]).getD 0 0 = g.getD 0 0 := by
  cases g with
  | nil => simp at h
  | cons a g => simp
def evOf (l : List Ls) (g : List Int) : Int := (l.getD (g.getD 0 0).toNat default).ev
structure EvJ (l : List Ls) (k : Nat) (s : EvS) : Prop where
  i : EvI k s
  hd : ∀ (q : Nat) (g : List Int), s.G[q]? = some g → 0 ≤ g.getD 0 0 ∧ g.getD 0 0 < k
  ev : ∀ e, e ≠ 0 → ∀ (q : Nat) (g : List Int), s.G[q]? = some g → (evOf l g = e ↔ s.kn e = (q : Int) + 1)
theorem EvJ.step {l : List Ls} {k : Nat} {s : EvS} (h : EvJ l k s) (t : Tr) (x : Ls) (hx : l.getD k default = x) : EvJ l (k + 1) (evStep t (k : Int) x s) := by
  refine ⟨h.i.step t x, ?_, ?_⟩
  · unfold evStep
    split
    · split
      · intro q g hg
        dsimp only at hg
        by_cases e : (s.kn x.ev - 1).toNat = q
        · subst e
          have hlt : (s.kn x.ev - 1).toNat < s.G.length := by simpa using (List.getElem?_eq_some_iff.1 hg).1
          rw [List.getElem?_set_self hlt] at hg
          cases hg
          have hgg := List.getElem?_eq_getElem hlt
          have hge := h.i.each _ (List.getElem_mem hlt)
          have hh := h.hd _ _ hgg
          rw [List.getD_eq_getElem?_getD (l := s.G), hgg, Option.getD_some]
          generalize s.G[(s.kn x.ev - 1).toNat] = g at *
          have : (g ++ [(k : Int)]).getD 0 0 = g.getD 0 0 := head_app hge.1 _
          rw [this]; omega
        · rw [List.getElem?_set_ne e] at hg
          have := h.hd q g hg; omega
      · intro q g hg
        dsimp only at hg
        by_cases e : q < s.G.length
        · rw [List.getElem?_append_left e] at hg
          have := h.hd q g hg; omega
        · rw [List.getElem?_append_right (by omega)] at hg
          cases hq : q - s.G.length with
          | zero => rw [hq] at hg; simp at hg; subst hg; simp; omega
          | succ m => rw [hq] at hg; simp at hg
    · intro q g hg
      have := h.hd q g hg; omega
  · unfold evStep
    split
    · split
      · intro e he q g hg
        dsimp only at hg ⊢
        by_cases eq : (s.kn x.ev - 1).toNat = q
        · subst eq
          have hlt : (s.kn x.ev - 1).toNat < s.G.length := by simpa using (List.getElem?_eq_some_iff.1 hg).1
          rw [List.getElem?_set_self hlt] at hg
          cases hg
          have hgg := List.getElem?_eq_getElem hlt
          have hge := h.i.each _ (List.getElem_mem hlt)
          have hh := h.ev e he _ _ hgg
          rw [List.getD_eq_getElem?_getD (l := s.G), hgg, Option.getD_some]
          generalize s.G[(s.kn x.ev - 1).toNat] = g at *
          have : (g ++ [(k : Int)]).getD 0 0 = g.getD 0 0 := head_app hge.1 _
          unfold evOf at hh ⊢
          rw [this]; exact hh
        · rw [List.getElem?_set_ne eq] at hg
          exact h.ev e he q g hg
      · rename_i hc
        intro e he q g hg
        dsimp only at hg ⊢
        have hb := h.i.kn e
        by_cases eq : q < s.G.length
        · rw [List.getElem?_append_left eq] at hg
          have hh := h.ev e he q g hg
          by_cases ee : e = x.ev
          · rw [if_pos ee]
            have h0 : s.kn e = 0 := by
              have := h.i.kn x.ev
              rw [← ee] at hc this
              omega
            rw [hh]; omega
          · rw [if_neg ee]; exact hh
        · rw [List.getElem?_append_right (by omega)] at hg
          cases hq : q - s.G.length with
          | zero =>
            rw [hq] at hg; simp at hg; subst hg
            have hqn : q = s.G.length := by omega
            have hev : evOf l [(k : Int)] = x.ev := by unfold evOf; simp only [List.getD_cons_zero, Int.toNat_natCast]; rw [hx]
            rw [hev]
            by_cases ee : e = x.ev
            · rw [if_pos ee, hqn]; simp [ee]
            · rw [if_neg ee]
              constructor
              · intro g; exact absurd g.symm ee
              · intro g; omega
          | succ m => rw [hq] at hg; simp at hg
    · intro e he q g hg
      exact h.ev e he q g hg
def ev2St (t : Tr) (l : List Ls) (k : Nat) (s : EvS) (ex : List (Nat × V)) : St :=
  ⟨[(1, .d (slX l)), (2, .own 2 0), (5, .osl 1000), (6, .d (.int .i64 k))] ++ ex,
   (1000, .lit 32 1 s.G.length (nestC 0 cI 5000 1 1 0 s.G)) :: ([(2, .fix (cT t))] ++ nestO 0 cI 5000 1 3 1 0 s.G), [1000, 2] ++ nmN 5000 s.G.length⟩
theorem Wk.ev2 {c : Ctx} {st : St} {t : Tr} {l : List Ls} {k : Nat} {s : EvS} {ex : List (Nat × V)} (x y : Nat) (hfn : c.fn = []) (hex : envNames ex = []) (he : EnvLe (renE (Go.Bx.sw x y) st.env) (ev2St t l k s ex).env)
    (hA : OwnLeS (Go.Bx.sw x y) st.own [(2, .fix (cT t))])
    (hl : ∃ o', own? st.own (Go.Bx.sw x y 1000) = some o' ∧ OLe (o'.ren (Go.Bx.sw x y)) (.lit 32 1 s.G.length (nestC 0 cI 5000 1 1 0 s.G)))
    (hi : ∀ i g, s.G[i]? = some g → 1 < g.length → ∃ o', own? st.own (Go.Bx.sw x y (5000 + i)) = some o' ∧ OLe (o'.ren (Go.Bx.sw x y)) (.row 3 1 g.length (fun j => cI (g.getD j 0)))) : Wk c st (ev2St t l k s ex) :=
  Wk.nest (dx := 0) (cells := cI) (K := 5000) (K' := 1000) (τ := 1) (e' := 32) (e := 3) (sz := 1) (G := s.G) x y [] hfn (by simp) (by simp) (env := (ev2St t l k s ex).env) (A := [(2, .fix (cT t))]) (N := [1000, 2])
    (by simp [wkB, ev2St, envNames, hex, V.names, keysO, nodupB, oNames, namesL, cT]) rfl he hA hl hi
def metJ (s : EvS) (e : Int) (j : Nat) : Int := if e ≠ 0 ∧ 0 < s.kn e ∧ s.kn e ≤ j then s.kn e - 1 else -1
set_option maxHeartbeats 4000000 in
theorem rEvents (t : Tr) (l : List Ls) (hl : l.length ≤ 1000000) (hp : ∀ x, x ∈ l → x.per ≤ 9223372036854775807) : Ctr Try.prog 16 [vT t, .d (slX l)] [] (.d (.sl false 1 (eventsT t l).length (nestD 0 cI 1 (eventsT t l)))) [] [] := by
  refine ctr_pure Try.func16 ok16 rfl cc16 cr16 Try.ntmps16 (by simp) rfl rfl ?_; intro c hP hfn; simp only [kc16, vT, cT, slX, vcb, ↓evSo_some, ↓reduceIte, reduceCtorEq, seval]
  refine vcC.loop (X := Nat × EvS) (fun x => ev2St t l x.1 x.2 [])
    (fun x => x.1 ≤ l.length ∧ EvJ l x.1 x.2 ∧ eventsT t l = (evRun t x.1 (l.drop x.1) x.2).G) (fun x => l.length - x.1) (0, ⟨[], fun _ => 0⟩) ⟨Nat.zero_le _, ⟨⟨fun n => by simp, Nat.le_refl _, fun g hg => by simp at hg⟩, fun q g hg => by simp at hg, fun e he q g hg => by simp at hg⟩, rfl⟩
    ((Wk.row0 (s := 5) (k := 1000) (e := 32) (sz := 1) (f' := fun _ => []) rfl rfl (by simp)).trans (Wk.of (b := ev2St t l 0 ⟨[], fun _ => 0⟩ []) _ hfn rfl (by simp only [ev2St, slX, enb, vcb, ↓evSo_some, ↓reduceIte, reduceCtorEq, seval]) (by simp only [ev2St, cT, nestC, nestO, enb, vcb, ↓evSo_some, ↓reduceIte, reduceCtorEq, seval]; exact OLe.rowLit rfl))) ?_
  rintro ⟨k, s⟩ ⟨hk, hI, he⟩
  simp only at hk hI he
  simp only [ev2St, cT, slX, own?_setO, own?_nestD, mem_nmN, vcb, ↓evSo_some, ↓reduceIte, reduceCtorEq, seval]
  refine ⟨fun h1 => ?_, fun h1 => ?_⟩
  · have hlt : k < l.length := by have := of_decide_eq_true h1; omega
    obtain ⟨x, hd, hg, hxm, -⟩ := drop_at hlt
    rw [hd, evRun] at he
    have hI' := hI.step t x (hg _)
    have ct := s30 t x (hp x hxm)
    simp only [vT, cT, vX, cX'] at ct
    have ewk : IntKind.i64.wrap ((k : Int) + 1) = ((k + 1 : Nat) : Int) := wS (by omega)
    simp only [hg, own?_setO, own?_nestD, mem_nmN, vcb, ↓evSo_some, ↓reduceIte, reduceCtorEq, seval]
    repeat' first
        | (first
            | refine TR.p hP (by first | exact ct) (by repeat' first | exact trivial | (intro _; assumption) | apply And.intro) ?_
            | refine TR.gp hP rfl (fun _ => by first | exact ct) (fun _ => by repeat' first | exact trivial | (intro _; assumption) | apply And.intro) ?_
            | refine TR.pv hP rfl (by first | exact ct) trivial (by repeat' first | exact trivial | (intro _; assumption) | apply And.intro) ?_
           try simp only [hg, own?_setO, own?_nestD, mem_nmN, vcb, ↓evSo_some, ↓reduceIte, reduceCtorEq, seval])
        | refine And.intro (fun h => ?_) (fun h => ?_)
        | refine And.intro (by first | omega | (simp only [maxLen, decide_eq_true_eq, decide_eq_false_iff_not] at *; omega)) ?_
        | (refine TR.aslO rfl rfl rfl rfl trivial (Nat.le_of_ble_eq_true rfl) ?_
           try simp only [hg, own?_setO, own?_nestD, mem_nmN, vcb, ↓evSo_some, ↓reduceIte, reduceCtorEq, seval])
        | refine And.intro trivial ?_
        | refine And.intro rfl ?_
        | fail
    · have es : evStep t (k : Int) x s = s := by
        have h' : ¬ takesT t x = true := by simpa using h
        rw [evStep, if_neg h']
      rw [es] at he hI'
      exact lopK.on (k + 1, s) ⟨hlt, hI', he⟩ (by simp only; omega) (Wk.ev2 (t := t) (l := l) 0 0 hfn rfl (by simp only [ev2St, slX, ewk, enb, vcb, ↓evSo_some, ↓reduceIte, reduceCtorEq, seval]) (by simp only [OwnLeS, cT, enb, vcb, ↓evSo_some, ↓reduceIte, reduceCtorEq, seval])
        ⟨.lit 32 1 s.G.length (nestC 0 cI 5000 1 1 0 s.G), by simp only [enb, vcb, ↓evSo_some, ↓reduceIte, reduceCtorEq, seval], by simp only [Own.ren, nest_ren (show 0 < 5000 by decide) (show 0 < 5000 by decide)]; exact OLe.refl _⟩
        (fun i g hg1 hg2 => ⟨.row 3 1 g.length (fun j => cI (g.getD j 0)), by simp only [own?_setO, own?_nestD, own?_delSet, ne_lo, ne_hi, nest_at hg1 hg2, enb, vcb, ↓evSo_some, ↓reduceIte, reduceCtorEq, seval], OLe.refl _⟩))
    have hT : takesT t x = true := by simpa using h
    refine vcC.loop (X := Nat) (fun j => ev2St t l k s [(7, .d (.int .i64 (metJ s x.ev j))), (8, .d (.int .i64 j))])
      (fun j => j ≤ s.G.length) (fun j => s.G.length - j) 0 (Nat.zero_le _) (Wk.ev2 (t := t) (l := l) 0 0 hfn rfl (by simp only [ev2St, slX, enb, vcb, ↓evSo_some, ↓reduceIte, reduceCtorEq, seval]; rw [metJ, if_neg (by omega)]) (by simp only [OwnLeS, cT, enb, vcb, ↓evSo_some, ↓reduceIte, reduceCtorEq, seval])
        ⟨.lit 32 1 s.G.length (nestC 0 cI 5000 1 1 0 s.G), by simp only [enb, vcb, ↓evSo_some, ↓reduceIte, reduceCtorEq, seval], by simp only [Own.ren, nest_ren (show 0 < 5000 by decide) (show 0 < 5000 by decide)]; exact OLe.refl _⟩
        (fun i g hg1 hg2 => ⟨.row 3 1 g.length (fun j => cI (g.getD j 0)), by simp only [own?_setO, own?_nestD, own?_delSet, ne_lo, ne_hi, nest_at hg1 hg2, enb, vcb, ↓evSo_some, ↓reduceIte, reduceCtorEq, seval], OLe.refl _⟩)) ?_
    rintro j hj
    simp only [ev2St, cT, slX, hg, own?_setO, own?_nestD, mem_nmN, vcb, ↓evSo_some, ↓reduceIte, reduceCtorEq, seval]
    repeat' first
        | refine And.intro (fun h => ?_) (fun h => ?_)
        | refine And.intro (by first | omega | (simp only [maxLen, decide_eq_true_eq, decide_eq_false_iff_not] at *; omega)) ?_
        | (refine TR.aslO rfl rfl rfl rfl trivial (Nat.le_of_ble_eq_true rfl) ?_
           try simp only [hg, own?_setO, own?_nestD, mem_nmN, vcb, ↓evSo_some, ↓reduceIte, reduceCtorEq, seval])
        | refine And.intro trivial ?_
        | refine And.intro rfl ?_
        | fail
    · have hx0 : x.ev ≠ 0 := by
        rw [Bool.and_eq_true] at h; simpa using h.2
      have hjn : j < s.G.length := by
        rw [Bool.and_eq_true, decide_eq_true_eq] at h; omega
      have hgj : s.G[j]? = some s.G[j] := List.getElem?_eq_getElem hjn
      have hge := hI.i.each _ (List.getElem_mem hjn)
      generalize s.G[j] = g at *
      have hh := hI.hd j g hgj
      have hJ := hI.ev x.ev hx0 j g hgj
      have hnth := nestC_nth (dx := (0 : Int)) (cells := cI) (K := 5000) (τ := 1) (sz := 1) (i := 0) hgj
      rw [Nat.zero_add] at hnth
      have ewj : IntKind.i64.wrap ((j : Int) + 1) = ((j + 1 : Nat) : Int) := wS (by have := hI.i.len; omega)
      have hb1 : (0 : Int) ≤ g.getD 0 0 ∧ g.getD 0 0 < (l.length : Int) := by omega
      have hb0 : (0 : Int) < (g.length : Int) := by omega
      clear h
      by_cases hg1 : g.length ≤ 1
      · rw [if_pos hg1] at hnth
        simp only [hnth, cI, hg, own?_setO, own?_nestD, mem_nmN, vcb, ↓evSo_some, ↓reduceIte, reduceCtorEq, seval]
        refine ⟨⟨by omega, by omega⟩, hjn, by omega, hb1, ⟨by omega, by omega⟩, rfl, fun h => ?_, fun h => ?_⟩
        · have h5 : evOf l g = x.ev := by simpa [evOf] using h
          have em : metJ s x.ev (j + 1) = (j : Int) := by
            have := hJ.1 h5
            rw [metJ, if_pos ⟨hx0, by omega, by omega⟩]; omega
          exact lopK.on (j + 1) (by omega) (by omega) (Wk.ev2 (t := t) (l := l) 0 0 hfn rfl (by simp only [ev2St, slX, ewj, em, enb, vcb, ↓evSo_some, ↓reduceIte, reduceCtorEq, seval]) (by simp only [OwnLeS, cT, enb, vcb, ↓evSo_some, ↓reduceIte, reduceCtorEq, seval])
                    ⟨.lit 32 1 s.G.length (nestC 0 cI 5000 1 1 0 s.G), by simp only [enb, vcb, ↓evSo_some, ↓reduceIte, reduceCtorEq, seval], by simp only [Own.ren, nest_ren (show 0 < 5000 by decide) (show 0 < 5000 by decide)]; exact OLe.refl _⟩
                    (fun i g hg1 hg2 => ⟨.row 3 1 g.length (fun j => cI (g.getD j 0)), by simp only [own?_setO, own?_nestD, own?_delSet, ne_lo, ne_hi, nest_at hg1 hg2, enb, vcb, ↓evSo_some, ↓reduceIte, reduceCtorEq, seval], OLe.refl _⟩))
        · have h5 : ¬ evOf l g = x.ev := by simpa [evOf] using h
          have em : metJ s x.ev (j + 1) = metJ s x.ev j := by
            have h6 : ¬ s.kn x.ev = (j : Int) + 1 := fun e => h5 (hJ.2 e)
            unfold metJ
            by_cases h7 : 0 < s.kn x.ev ∧ s.kn x.ev ≤ j
            · rw [if_pos ⟨hx0, h7.1, by omega⟩, if_pos ⟨hx0, h7.1, h7.2⟩]
            · rw [if_neg (fun h8 => h7 ⟨h8.2.1, by omega⟩), if_neg (fun h8 => h7 ⟨h8.2.1, h8.2.2⟩)]
          exact lopK.on (j + 1) (by omega) (by omega) (Wk.ev2 (t := t) (l := l) 0 0 hfn rfl (by simp only [ev2St, slX, ewj, em, enb, vcb, ↓evSo_some, ↓reduceIte, reduceCtorEq, seval]) (by simp only [OwnLeS, cT, enb, vcb, ↓evSo_some, ↓reduceIte, reduceCtorEq, seval])
                    ⟨.lit 32 1 s.G.length (nestC 0 cI 5000 1 1 0 s.G), by simp only [enb, vcb, ↓evSo_some, ↓reduceIte, reduceCtorEq, seval], by simp only [Own.ren, nest_ren (show 0 < 5000 by decide) (show 0 < 5000 by decide)]; exact OLe.refl _⟩
                    (fun i g hg1 hg2 => ⟨.row 3 1 g.length (fun j => cI (g.getD j 0)), by simp only [own?_setO, own?_nestD, own?_delSet, ne_lo, ne_hi, nest_at hg1 hg2, enb, vcb, ↓evSo_some, ↓reduceIte, reduceCtorEq, seval], OLe.refl _⟩))
      · rw [if_neg hg1] at hnth
        have hrow := nest_at hgj (by omega)
        simp only [hnth, hrow, cI, hg, own?_setO, own?_nestD, own?_delSet, ne_lo, ne_hi, mem_nmN, vcb, ↓evSo_some, ↓reduceIte, reduceCtorEq, seval]
        refine ⟨⟨by omega, by omega⟩, hjn, by omega, by omega, hb1, ⟨by omega, by omega⟩, rfl, fun h => ?_, fun h => ?_⟩
        · have h5 : evOf l g = x.ev := by simpa [evOf] using h
          have em : metJ s x.ev (j + 1) = (j : Int) := by
            have := hJ.1 h5
            rw [metJ, if_pos ⟨hx0, by omega, by omega⟩]; omega
          exact lopK.on (j + 1) (by omega) (by omega) (Wk.ev2 (t := t) (l := l) 0 0 hfn rfl (by simp only [ev2St, slX, ewj, em, enb, vcb, ↓evSo_some, ↓reduceIte, reduceCtorEq, seval]) (by simp only [OwnLeS, cT, enb, vcb, ↓evSo_some, ↓reduceIte, reduceCtorEq, seval])
                    ⟨.lit 32 1 s.G.length (nestC 0 cI 5000 1 1 0 s.G), by simp only [enb, vcb, ↓evSo_some, ↓reduceIte, reduceCtorEq, seval], by simp only [Own.ren, nest_ren (show 0 < 5000 by decide) (show 0 < 5000 by decide)]; exact OLe.refl _⟩
                    (fun i g hg1 hg2 => ⟨.row 3 1 g.length (fun j => cI (g.getD j 0)), by simp only [own?_setO, own?_nestD, own?_delSet, ne_lo, ne_hi, nest_at hg1 hg2, enb, vcb, ↓evSo_some, ↓reduceIte, reduceCtorEq, seval], OLe.refl _⟩))
        · have h5 : ¬ evOf l g = x.ev := by simpa [evOf] using h
          have em : metJ s x.ev (j + 1) = metJ s x.ev j := by
            have h6 : ¬ s.kn x.ev = (j : Int) + 1 := fun e => h5 (hJ.2 e)
            unfold metJ
            by_cases h7 : 0 < s.kn x.ev ∧ s.kn x.ev ≤ j
            · rw [if_pos ⟨hx0, h7.1, by omega⟩, if_pos ⟨hx0, h7.1, h7.2⟩]
            · rw [if_neg (fun h8 => h7 ⟨h8.2.1, by omega⟩), if_neg (fun h8 => h7 ⟨h8.2.1, h8.2.2⟩)]
          exact lopK.on (j + 1) (by omega) (by omega) (Wk.ev2 (t := t) (l := l) 0 0 hfn rfl (by simp only [ev2St, slX, ewj, em, enb, vcb, ↓evSo_some, ↓reduceIte, reduceCtorEq, seval]) (by simp only [OwnLeS, cT, enb, vcb, ↓evSo_some, ↓reduceIte, reduceCtorEq, seval])
                    ⟨.lit 32 1 s.G.length (nestC 0 cI 5000 1 1 0 s.G), by simp only [enb, vcb, ↓evSo_some, ↓reduceIte, reduceCtorEq, seval], by simp only [Own.ren, nest_ren (show 0 < 5000 by decide) (show 0 < 5000 by decide)]; exact OLe.refl _⟩
                    (fun i g hg1 hg2 => ⟨.row 3 1 g.length (fun j => cI (g.getD j 0)), by simp only [own?_setO, own?_nestD, own?_delSet, ne_lo, ne_hi, nest_at hg1 hg2, enb, vcb, ↓evSo_some, ↓reduceIte, reduceCtorEq, seval], OLe.refl _⟩))
    · rename_i h8
      have hm := of_decide_eq_true h
      have hc : ¬ (x.ev ≠ 0 ∧ 0 < s.kn x.ev) := by
        intro hh
        have hkn := (hI.i.kn x.ev).2
        have hjn : (j : Int) = s.G.length := by
          rw [Bool.and_eq_false_iff] at h8
          rcases h8 with h8 | h8
          · have := of_decide_eq_false h8; omega
          · exact absurd (by simpa using h8) hh.1
        rw [metJ, if_pos ⟨hh.1, hh.2, by omega⟩] at hm; omega
      have hl2 := hI.i.len
      have ewk : IntKind.i64.wrap ((k : Int) + 1) = ((k + 1 : Nat) : Int) := wS (by omega)
      have hes : evStep t (k : Int) x s = ⟨s.G ++ [[(k : Int)]], fun n => if n = x.ev then ((s.G.length + 1 : Nat) : Int) else s.kn n⟩ := by
        rw [evStep, if_pos hT, if_neg hc]
      rw [hes] at he hI'
      refine ⟨⟨by omega, by simp only [maxLen]; omega⟩, lopK.on (k + 1, ⟨s.G ++ [[(k : Int)]], fun n => if n = x.ev then ((s.G.length + 1 : Nat) : Int) else s.kn n⟩) ⟨hlt, hI', he⟩ (by simp only; omega)
        (Wk.ev2 (t := t) (l := l) 59 1000 hfn rfl (by simp only [ev2St, slX, ewk, ne_lo, ne_hi, enb, vcb, ↓evSo_some, ↓reduceIte, reduceCtorEq, seval]) (by simp only [OwnLeS, cT, own?_setO, own?_nestD, own?_delSet, own?_delSet2, ne_lo, ne_hi, enb, vcb, ↓evSo_some, ↓reduceIte, reduceCtorEq, seval])
          ⟨_, by simp only [own?_setO, own?_nestD, own?_delSet, own?_delSet2, ne_lo, ne_hi, enb, vcb, ↓evSo_some, ↓reduceIte, reduceCtorEq, seval]; rfl, ?_⟩
          (fun j g hg1 hg2 => ?_))⟩
      · have hp := nest_ren (dx := (0 : Int)) (cells := cI) (K := 5000) (τ := 1) (sz := 1) (i := 0) (G := s.G) (show 59 < 5000 by decide) (show 1000 < 5000 by decide)
        simp only [Own.ren, renL_app, hp, nestC_app, List.length_append, List.length_singleton, nestC, renL, V.ren, Nat.le_refl, if_true]
        exact OLe.lits (VsLe.snoc (VLe.sl rfl (fun _ => rfl) id (fun q hq => by
          have : q = 0 := by omega
          subst this; simp [cI, litRow])) _)
      · have hj : s.G[j]? = some g := by
          by_cases e : j < s.G.length
          · rwa [List.getElem?_append_left e] at hg1
          · rw [List.getElem?_append_right (by omega)] at hg1
            have : j - s.G.length = 0 := by
              by_cases e0 : j - s.G.length = 0
              · exact e0
              · rw [List.getElem?_eq_none (by simp; omega)] at hg1; cases hg1
            rw [this] at hg1
            simp at hg1; subst hg1; simp at hg2
        exact ⟨.row 3 1 g.length (fun j => cI (g.getD j 0)), by simp only [own?_setO, own?_nestD, own?_delSet, own?_delSet2, ne_lo, ne_hi, nest_at hj hg2, enb, vcb, ↓evSo_some, ↓reduceIte, reduceCtorEq, seval], OLe.refl _⟩
    · have hmm : 0 ≤ metJ s x.ev j := by have := of_decide_eq_false h; omega
      have hc3 : x.ev ≠ 0 ∧ 0 < s.kn x.ev ∧ s.kn x.ev ≤ j := by
        by_cases h9 : x.ev ≠ 0 ∧ 0 < s.kn x.ev ∧ s.kn x.ev ≤ j
        · exact h9
        · rw [metJ, if_neg h9] at hmm; omega
      have hc : x.ev ≠ 0 ∧ 0 < s.kn x.ev := ⟨hc3.1, hc3.2.1⟩
      have ewk : IntKind.i64.wrap ((k : Int) + 1) = ((k + 1 : Nat) : Int) := wS (by omega)
      have hb := hI.i.kn x.ev
      obtain ⟨i, hi⟩ : ∃ i : Nat, s.kn x.ev - 1 = (i : Int) := ⟨(s.kn x.ev - 1).toNat, by omega⟩
      have hil : i < s.G.length := by omega
      have hl2 := hI.i.len
      have ew : metJ s x.ev j = (i : Int) := by rw [metJ, if_pos hc3, hi]
      have hgi : s.G[i]? = some s.G[i] := List.getElem?_eq_getElem hil
      have hgd : s.G.getD i [] = s.G[i] := by rw [List.getD_eq_getElem?_getD, hgi]; rfl
      have hge := hI.i.each _ (List.getElem_mem hil)
      have hes : evStep t (k : Int) x s = ⟨s.G.set i (s.G[i] ++ [(k : Int)]), s.kn⟩ := by
        rw [evStep, if_pos hT, if_pos hc, hi, Int.toNat_natCast, hgd]
      rw [hes] at he hI'
      generalize s.G[i] = g at *
      have hnth := nestC_nth (dx := (0 : Int)) (cells := cI) (K := 5000) (τ := 1) (sz := 1) (i := 0) hgi
      rw [Nat.zero_add] at hnth
      have hfin : ∀ (st : St), EnvLe (renE (Go.Bx.sw 68 (5000 + i)) st.env) (ev2St t l (k + 1) ⟨s.G.set i (g ++ [(k : Int)]), s.kn⟩ []).env → OwnLeS (Go.Bx.sw 68 (5000 + i)) st.own [(2, .fix (cT t))] →
          own? st.own 1000 = some (.lit 32 1 s.G.length (putV (nestC 0 cI 5000 1 1 0 s.G) i [.osl 68])) →
          (∃ n F, own? st.own 68 = some (.row 3 1 n F) ∧ n = g.length + 1 ∧ ∀ q, q < g.length + 1 → F q = cI ((g ++ [(k : Int)]).getD q 0)) →
          (∀ j, j ≠ i → own? st.own (5000 + j) = own? (nestO 0 cI 5000 1 3 1 0 s.G) (5000 + j)) →
          Wk c st (ev2St t l (k + 1) ⟨s.G.set i (g ++ [(k : Int)]), s.kn⟩ []) := by
        intro st q1 q2 q3 q4 q5
        obtain ⟨n, F, q6, rfl, q7⟩ := q4
        have hsw : Go.Bx.sw 68 (5000 + i) 1000 = 1000 := by simp only [Go.Bx.sw, ne_lo, ne_hi, enb, vcb, ↓evSo_some, ↓reduceIte, reduceCtorEq, seval]
        refine Wk.ev2 68 (5000 + i) hfn rfl q1 q2 ⟨_, by rw [hsw]; exact q3, ?_⟩ (fun j g' hg1 hg2 => ?_)
        · have hp := putV_nest (dx := (0 : Int)) (cells := cI) (K := 5000) (τ := 1) (sz := 1) (i0 := 0) (i := i) (g := g ++ [(k : Int)]) hil (by simp; omega) 68
          rw [if_pos (by decide), Nat.zero_add] at hp
          simp only [Own.ren, hp, List.length_set]
          exact OLe.refl _
        · by_cases e : j = i
          · subst e
            rw [List.getElem?_set_self hil] at hg1
            cases hg1
            have hsj : Go.Bx.sw 68 (5000 + j) (5000 + j) = 68 := by unfold Go.Bx.sw; rw [if_neg (by omega), if_pos rfl]
            refine ⟨.row 3 1 (g.length + 1) F, by rw [hsj]; exact q6, ?_⟩
            exact OLe.row (by simp) q7
          · rw [List.getElem?_set_ne (fun g => e g.symm)] at hg1
            refine ⟨_, by rw [show Go.Bx.sw 68 (5000 + i) (5000 + j) = 5000 + j by unfold Go.Bx.sw; rw [if_neg (by omega), if_neg (by omega)], q5 j e]; exact nest_at hg1 hg2, OLe.refl _⟩
      by_cases hg1 : g.length ≤ 1
      · rw [if_pos hg1] at hnth
        have hg0 : g.length = 1 := by omega
        simp only [ew, hnth, hg0, own?_setO, own?_nestD, own?_delSet, own?_delSet2, ne_lo, ne_hi, mem_nmN, vcb, ↓evSo_some, ↓reduceIte, reduceCtorEq, seval]
        refine ⟨⟨by omega, by omega⟩, hil, by simp only [maxLen]; omega, ⟨by omega, by omega⟩, hil, lopK.on (k + 1, ⟨s.G.set i (g ++ [(k : Int)]), s.kn⟩) ⟨hlt, hI', he⟩ (by simp only; omega) (hfin _ (by simp only [ev2St, slX, ewk, ne_lo, ne_hi, enb, vcb, ↓evSo_some, ↓reduceIte, reduceCtorEq, seval]) (by simp only [OwnLeS, cT, own?_setO, own?_nestD, own?_delSet, own?_delSet2, ne_lo, ne_hi, enb, vcb, ↓evSo_some, ↓reduceIte, reduceCtorEq, seval]) (by simp only [own?_setO, own?_nestD, own?_delSet, own?_delSet2, ne_lo, ne_hi, enb, vcb, ↓evSo_some, ↓reduceIte, reduceCtorEq, seval]) ⟨_, _, by simp only [own?_setO, own?_nestD, own?_delSet, own?_delSet2, ne_lo, ne_hi, enb, vcb, ↓evSo_some, ↓reduceIte, reduceCtorEq, seval]; rfl, by omega, ?_⟩ (fun j hj => ?_))⟩
        · intro q hq
          by_cases e : q < g.length
          · have e3 : q < 1 ∨ 1 ≤ q := by omega
            simp [e, cI, List.getElem?_append_left e]; try omega
          · have e2 : q = g.length := by omega
            have hne : ¬ g = [] := fun h => by rw [h] at hge; simp at hge
            subst e2
            first | (simp [litRow, cI]; done) | (simp [litRow, cI, hne, hg0]; done)
        · have hji : (5000 + j = 5000 + i) = False := eq_false (by omega)
          simp only [hji, own?_setO, own?_nestD, own?_delSet, own?_delSet2, ne_lo, ne_hi, enb, vcb, ↓evSo_some, ↓reduceIte, reduceCtorEq, seval]
      · rw [if_neg hg1] at hnth
        have hrow := nest_at hgi (by omega)
        simp only [ew, hnth, hrow, own?_setO, own?_nestD, own?_delSet, own?_delSet2, ne_lo, ne_hi, mem_nmN, vcb, ↓evSo_some, ↓reduceIte, reduceCtorEq, seval]
        refine ⟨⟨by omega, by omega⟩, hil, ⟨by omega, by simp only [maxLen]; omega⟩, ⟨by omega, by omega⟩, hil, lopK.on (k + 1, ⟨s.G.set i (g ++ [(k : Int)]), s.kn⟩) ⟨hlt, hI', he⟩ (by simp only; omega) (hfin _ (by simp only [ev2St, slX, ewk, ne_lo, ne_hi, enb, vcb, ↓evSo_some, ↓reduceIte, reduceCtorEq, seval]) (by simp only [OwnLeS, cT, own?_setO, own?_nestD, own?_delSet, own?_delSet2, ne_lo, ne_hi, enb, vcb, ↓evSo_some, ↓reduceIte, reduceCtorEq, seval]) (by simp only [own?_setO, own?_nestD, own?_delSet, own?_delSet2, ne_lo, ne_hi, enb, vcb, ↓evSo_some, ↓reduceIte, reduceCtorEq, seval]) ⟨_, _, by simp only [own?_setO, own?_nestD, own?_delSet, own?_delSet2, ne_lo, ne_hi, enb, vcb, ↓evSo_some, ↓reduceIte, reduceCtorEq, seval]; rfl, by omega, ?_⟩ (fun j hj => ?_))⟩
        · intro q hq
          by_cases e : q < g.length
          · have e3 : q < 1 ∨ 1 ≤ q := by omega
            simp [e, cI, List.getElem?_append_left e]; try omega
          · have e2 : q = g.length := by omega
            have hne : ¬ g = [] := fun h => by rw [h] at hge; simp at hge
            subst e2
            first | (simp [litRow, cI]; done) | (simp [litRow, cI, hne, hg0]; done)
        · have hji : (5000 + j = 5000 + i) = False := eq_false (by omega)
          simp only [hji, own?_setO, own?_nestD, own?_delSet, own?_delSet2, ne_lo, ne_hi, enb, vcb, ↓evSo_some, ↓reduceIte, reduceCtorEq, seval]
  · have hkl : k = l.length := by have := of_decide_eq_false h1; omega
    rw [hkl, List.drop_length, evRun] at he
    refine RetK.mk _ ((Wk.nestPub (dx := 0) (cells := cI) (K' := 1000) (K := 5000) (τ := 1) (e' := 32) (e := 3) (sz := 1) (G := s.G) (own' := [(1000, .row 32 1 s.G.length (nestD 0 cI 1 s.G))]) (by simp only [vcb, ↓evSo_some, ↓reduceIte, reduceCtorEq, seval])
        (fun i g hg1 hg2 => by simp only [ne_lo, ne_hi, nest_at hg1 hg2, vcb, ↓evSo_some, ↓reduceIte, reduceCtorEq, seval]) (by simp [keysO]) (fun k o hm => by simp at hm; obtain ⟨rfl, rfl⟩ := hm; exact .inl ⟨rfl, rfl⟩) (fun i hi => by simp [keysO]; omega)).trans (Wk.pub 1000 rfl)) (by simp only [rs16, rsb, vcb, ↓evSo_some, ↓reduceIte, reduceCtorEq, seval]) ?_ trivial
    simp only [rs16, rsb, vcb, ↓evSo_some, ↓reduceIte, reduceCtorEq, seval]
    rw [he]; exact VLe.refl _
end Go.Proofs.Ytkifajabiggfmaa
end
section
set_option linter.unusedSimpArgs false
set_option linter.unusedVariables false
namespace Go.Proofs.Ytkifajabiggfmaa
set_option linter.unusedSimpArgs false
set_option linter.unusedVariables false
open Go.Bx
set_option maxRecDepth 10000
def amtsT (l : List Ls) (g : List Int) : List Int := g.map fun i => (l.getD i.toNat default).amt
theorem amts_snoc (l : List Ls) (g : List Int) (i : Int) : amtsT l (g ++ [i]) = amtsT l g ++ [(l.getD i.toNat default).amt] := by simp [amtsT]
theorem rAmts (l : List Ls) (g : List Int) (hg : g.length ≤ 1000000) (hx : ∀ i, i ∈ g → 0 ≤ i ∧ i < l.length) : Ctr Try.prog 35 [.d (slX l), .d (slK .i64 g)] [] (.d (slK .i64 (amtsT l g))) [] [] := by
  refine ctr_pure Try.func35 ok35 rfl cc35 cr35 Try.ntmps35 (by simp) rfl rfl ?_; intro c hP hfn; simp only [kc35, slX, vcb, ↓evSo_some, ↓reduceIte, reduceCtorEq, seval]
  refine vcC.loop (X := Nat) (fun k => ⟨[(0, .d (slX l)), (1, .d (slK .i64 g)), (5, .osl 1000), (6, .d (.int .i64 k))],
      [(1000, .row 3 1 (amtsT l (g.take k)).length (fun i => [.int .i64 ((amtsT l (g.take k)).getD i 0)]))], [1000]⟩)
    (fun k => k ≤ g.length) (fun k => g.length - k) 0 (Nat.zero_le _)
    ((Wk.row0 (s := 5) (k := 1000) (e := 3) (sz := 1) (f' := fun _ => []) rfl rfl (by simp)).trans (Wk.of _ hfn rfl (by simp only [slX, enb, vcb, ↓evSo_some, ↓reduceIte, reduceCtorEq, seval]) (by simp only [amtsT, List.take_zero, enb, vcb, ↓evSo_some, ↓reduceIte, reduceCtorEq, seval]; exact OLe.row rfl (fun i hi => absurd hi (Nat.not_lt_zero i))))) ?_
  rintro k hk
  have hal : (amtsT l (g.take k)).length = k := by rw [amtsT, List.length_map, List.length_take]; omega
  simp only [slX, vcb, ↓evSo_some, ↓reduceIte, reduceCtorEq, seval]
  refine ⟨fun h1 => ?_, fun h1 => ?_⟩
  · have hlt : k < g.length := by have := of_decide_eq_true h1; omega
    obtain ⟨x, hd, hgx, hxm, hat⟩ := drop_at hlt
    have hb := hx x hxm
    have htk : g.take (k + 1) = g.take k ++ [x] := by rw [List.take_add_one, hat]; rfl
    have hbytes : ((amtsT l (g.take k)).length + 1) * 8 ≤ 140737488355328 := by omega
    have hmx : (amtsT l (g.take k)).length + 1 ≤ maxLen := by simp only [maxLen]; omega
    simp only [hgx, vcb, ↓evSo_some, ↓reduceIte, reduceCtorEq, seval]
    repeat' first
        | refine And.intro (fun h => ?_) (fun h => ?_)
        | refine And.intro (by first | omega | (simp only [maxLen, decide_eq_true_eq, decide_eq_false_iff_not] at *; omega)) ?_
        | (refine TR.aslO rfl rfl rfl rfl trivial (Nat.le_of_ble_eq_true rfl) ?_
           try simp only [hgx, vcb, ↓evSo_some, ↓reduceIte, reduceCtorEq, seval])
        | refine And.intro trivial ?_
        | refine And.intro rfl ?_
        | fail
    refine lopK.on (k + 1) hlt (by omega) ((Wk.sw 23 1000 _ hfn (by simp) (by simp)).trans (Wk.of _ hfn rfl (by simp only [slX, enb, vcb, ↓evSo_some, ↓reduceIte, reduceCtorEq, seval]; exact wS (by omega)) (by simp only [htk, amts_snoc, enb, vcb, ↓evSo_some, ↓reduceIte, reduceCtorEq, seval]; exact OLe.app1 (fun n : Int => [.int .i64 n]) (fun i hi => by simp [hi]) (by simp [litRow]))))
  · have hkl : k = g.length := by have := of_decide_eq_false h1; omega
    subst hkl
    rw [List.take_length]
    repeat' first
        | refine And.intro (fun h => ?_) (fun h => ?_)
        | refine And.intro (by first | omega | (simp only [maxLen, decide_eq_true_eq, decide_eq_false_iff_not] at *; omega)) ?_
        | (refine TR.aslO rfl rfl rfl rfl trivial (Nat.le_of_ble_eq_true rfl) ?_
           try simp only [vcb, ↓evSo_some, ↓reduceIte, reduceCtorEq, seval])
        | refine And.intro trivial ?_
        | refine And.intro rfl ?_
        | fail
    refine RetK.mk _ (Wk.pub 1000 rfl) (by simp only [rs35, rsb, vcb, ↓evSo_some, ↓reduceIte, reduceCtorEq, seval]) ?_ trivial
    simp only [rs35, rsb, vcb, ↓evSo_some, ↓reduceIte, reduceCtorEq, seval]
    exact VLe.refl _
def EvG (k : Nat) (s : EvS) : Prop := ∀ g, g ∈ s.G → ∀ i, i ∈ g → 0 ≤ i ∧ i < (k : Int)
theorem EvG.step {k : Nat} {s : EvS} (h : EvG k s) (hI : EvI k s) (t : Tr) (x : Ls) : EvG (k + 1) (evStep t (k : Int) x s) := by
  unfold evStep
  split
  · split
    · rename_i hc
      have hb := hI.kn x.ev
      have hlt : (s.kn x.ev - 1).toNat < s.G.length := by omega
      intro g hg i hi
      rcases List.mem_or_eq_of_mem_set hg with h1 | h1
      · have := h g h1 i hi; omega
      · subst h1
        rw [List.getD_eq_getElem?_getD, List.getElem?_eq_getElem hlt, Option.getD_some, List.mem_append] at hi
        rcases hi with hi | hi
        · have := h _ (List.getElem_mem hlt) i hi; omega
        · simp at hi; omega
    · intro g hg i hi
      rw [List.mem_append] at hg
      rcases hg with h1 | h1
      · have := h g h1 i hi; omega
      · simp at h1; subst h1; simp at hi; omega
  · intro g hg i hi
    have := h g hg i hi; omega
theorem evRun_ok (t : Tr) : ∀ (r : List Ls) (k : Nat) (s : EvS), EvI k s → EvG k s → EvI (k + r.length) (evRun t k r s) ∧ EvG (k + r.length) (evRun t k r s)
  | [], _, _, h, h' => ⟨h, h'⟩
  | x :: r, k, s, h, h' => by
    have := evRun_ok t r (k + 1) (evStep t (k : Int) x s) (h.step t x) (h'.step h t x)
    rw [List.length_cons, show k + (r.length + 1) = k + 1 + r.length by omega]
    exact this
theorem events_ok (t : Tr) (l : List Ls) : (eventsT t l).length ≤ l.length ∧ (∀ g, g ∈ eventsT t l → 1 ≤ g.length ∧ g.length ≤ l.length) ∧ ∀ g, g ∈ eventsT t l → ∀ i, i ∈ g → 0 ≤ i ∧ i < (l.length : Int) := by
  obtain ⟨h1, h2⟩ := evRun_ok t l 0 ⟨[], fun _ => 0⟩ ⟨fun n => by simp, Nat.le_refl _, fun g hg => by simp at hg⟩ (fun g hg => by simp at hg)
  rw [Nat.zero_add] at h1 h2
  exact ⟨h1.len, h1.each, h2⟩
end Go.Proofs.Ytkifajabiggfmaa
end
