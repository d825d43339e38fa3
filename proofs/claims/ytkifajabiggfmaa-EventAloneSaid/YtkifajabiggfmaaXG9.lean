import Derived.Test.YtkifajabiggfmaaXG8
section
set_option linter.unusedSimpArgs false
set_option linter.unusedVariables false
namespace Go.Proofs.Ytkifajabiggfmaa
set_option linter.unusedSimpArgs false
set_option linter.unusedVariables false
open Go.Bx
set_option maxRecDepth 10000
def upD (_ _ _ : Nat) : Bool := false
theorem sDown1 (q r c : Nat) (_ : r < c) (_ : c < 9223372036854775808) : Ctr Try.prog 69 [.d (.int .u64 q), .d (.int .u64 r), .d (.int .u64 c)] [] (.d (.bool (upD q r c))) [] [] := by
  refine ctr_pure Try.func69 ok69 rfl cc69 cr69 Try.ntmps69 (by simp) rfl rfl ?_; intro c hP hfn; simp only [kc69, vcb, ↓evSo_some, ↓reduceIte, reduceCtorEq, seval]
  exact RetK.pure (by simp only [rs69, rsb, vcb, ↓evSo_some, ↓reduceIte, reduceCtorEq, seval]) (by simp only [rs69, rsb, vcb, ↓evSo_some, ↓reduceIte, reduceCtorEq, seval, enb, vcb, ↓evSo_some, ↓reduceIte, reduceCtorEq, seval, upD])
theorem sDown0 : Ctr Try.prog 64 [] [] (.ag [.fn (.func 69) [] []]) [] [] := by
  refine ctr_pure Try.func64 ok64 rfl cc64 cr64 Try.ntmps64 (by simp) rfl rfl ?_; intro c hP hfn; simp only [kc64, vcb, ↓evSo_some, ↓reduceIte, reduceCtorEq, seval]
  exact RetK.pure (by simp only [rs64, rsb, vcb, ↓evSo_some, ↓reduceIte, reduceCtorEq, seval]) (by simp only [rs64, rsb, vcb, ↓evSo_some, ↓reduceIte, reduceCtorEq, seval, enb, vcb, ↓evSo_some, ↓reduceIte, reduceCtorEq, seval])
def downR (a b k : Int) : Int × Int := ofR upD a b k
theorem sDown (a b k : Int) (ha : a ≤ 9223372036854775807) (hb : b ≤ 9223372036854775807) (hc : k ≤ 9223372036854775807) :
    Ctr Try.prog 54 [.d (.int .i64 a), .d (.int .i64 b), .d (.int .i64 k)] [] (.tup [.d (.int .i64 (downR a b k).1), .d (.int .i64 (downR a b k).2)]) [] [] := by
  refine ctr_pure Try.func54 ok54 rfl cc54 cr54 Try.ntmps54 (by simp) rfl rfl ?_; intro c hP hfn; simp only [kc54, vcb, ↓evSo_some, ↓reduceIte, reduceCtorEq, seval]
  repeat' first
      | (first
          | refine TR.p hP (by first | exact sDown0 | exact sOf 69 upD sDown1 a b k ha hb hc) (by repeat' first | exact trivial | (intro _; assumption) | apply And.intro) ?_
          | refine TR.gp hP rfl (fun _ => by first | exact sDown0 | exact sOf 69 upD sDown1 a b k ha hb hc) (fun _ => by repeat' first | exact trivial | (intro _; assumption) | apply And.intro) ?_
          | refine TR.pv hP rfl (by first | exact sDown0 | exact sOf 69 upD sDown1 a b k ha hb hc) trivial (by repeat' first | exact trivial | (intro _; assumption) | apply And.intro) ?_
         try simp only [vcb, ↓evSo_some, ↓reduceIte, reduceCtorEq, seval])
      | refine And.intro (fun h => ?_) (fun h => ?_)
      | refine And.intro (by first | omega | (simp only [maxLen, decide_eq_true_eq, decide_eq_false_iff_not] at *; omega)) ?_
      | (refine TR.aslO rfl rfl rfl rfl trivial (Nat.le_of_ble_eq_true rfl) ?_
         try simp only [vcb, ↓evSo_some, ↓reduceIte, reduceCtorEq, seval])
      | refine And.intro trivial ?_
      | refine And.intro rfl ?_
      | fail
  (refine RetK.pure (by simp only [rs54, rsb, vcb, ↓evSo_some, ↓reduceIte, reduceCtorEq, seval]) (VLe.tups ?_); simp only [rs54, rsb, vcb, ↓evSo_some, ↓reduceIte, reduceCtorEq, seval])
  exact ⟨VLe.refl _, VLe.refl _, trivial⟩
def psums : Int → List Int → List Int
  | _, [] => []
  | n, p :: r => (n + p) :: psums (n + p) r
def deal2 (m S : Int) : Int → List Int → List Int
  | _, [] => []
  | d, s :: r => IntKind.i64.wrap ((downR m s S).1 - d) :: deal2 m S (downR m s S).1 r
def splitR (m : Int) (parts : List Int) : List Int × Int :=
  if m < 0 ∨ 2000 < parts.length then ([], 1)
  else if parts.any (fun p => decide (p < 0)) = true then ([], 1)
  else if 4000000000000000000 < parts.sum ∨ 4000000000000000000 < m then ([], 5)
  else if parts.sum = 0 then ([], 6)
  else (deal2 m parts.sum 0 (psums 0 parts), 0)
theorem psums_len : ∀ (l : List Int) (n : Int), (psums n l).length = l.length
  | [], _ => rfl
  | p :: r, n => by simp [psums, psums_len r]
theorem psums_snoc : ∀ (l : List Int) (n x : Int), psums n (l ++ [x]) = psums n l ++ [n + l.sum + x]
  | [], n, x => by simp [psums]
  | p :: r, n, x => by simp [psums, psums_snoc r]; omega
theorem psums_last {l : List Int} {n : Int} (h : 0 < l.length) : (psums n l).getD (l.length - 1) 0 = n + l.sum := by
  obtain ⟨r, x, rfl⟩ : ∃ r x, l = r ++ [x] := by
    cases l with
    | nil => simp at h
    | cons p r => exact ⟨(p :: r).dropLast, (p :: r).getLast (by simp), (List.dropLast_concat_getLast (by simp)).symm⟩
  rw [psums_snoc]
  simp [psums_len]
  omega
def runR (s p : Int) : (Int × Int) × Int :=
  if p < 0 then ((0, 1), s)
  else if IntKind.i64.wrap (s + p) > 4000000000000000000 ∨ IntKind.i64.wrap (s + p) < 0 then ((0, 5), 4000000000000000001)
  else ((IntKind.i64.wrap (s + p), 0), IntKind.i64.wrap (s + p))
theorem sRun1 (s p : Int) : Ctr Try.prog 63 [.d (.int .i64 p), .own 1 0] [(1, .fix [.d (.int .i64 s)])] (.tup [.d (.int .i64 (runR s p).1.1), .d (.int .i64 (runR s p).1.2)]) [(1, .fix [.d (.int .i64 (runR s p).2)])] [] := by
  refine ctr_own Try.func63 ok63 rfl cc63 cr63 Try.ntmps63 (by simp) rfl ?_
  intro c hP hfn
  simp only [kc63, namesL, V.names, ownNames, vcb, ↓evSo_some, ↓reduceIte, reduceCtorEq, seval]
  refine ⟨fun h => ?_, fun h => ⟨fun h2 => ?_, fun h2 => ?_⟩⟩
  · have e : runR s p = ((0, 1), s) := by rw [runR, if_pos (of_decide_eq_true h)]
    rw [e]
    exact RetK.mk _ (Wk.refl _ _) (by simp only [rs63, rsb, vcb, ↓evSo_some, ↓reduceIte, reduceCtorEq, seval]) (by simp only [rs63, rsb, vcb, ↓evSo_some, ↓reduceIte, reduceCtorEq, seval, enb, vcb, ↓evSo_some, ↓reduceIte, reduceCtorEq, seval]) (by simp only [enb, vcb, ↓evSo_some, ↓reduceIte, reduceCtorEq, seval])
  · have h2' : IntKind.i64.wrap (s + p) > 4000000000000000000 ∨ IntKind.i64.wrap (s + p) < 0 := by simpa using h2
    have e : runR s p = ((0, 5), 4000000000000000001) := by rw [runR, if_neg (of_decide_eq_false h), if_pos h2']
    rw [e]
    exact RetK.mk _ (Wk.refl _ _) (by simp only [rs63, rsb, vcb, ↓evSo_some, ↓reduceIte, reduceCtorEq, seval]) (by simp only [rs63, rsb, vcb, ↓evSo_some, ↓reduceIte, reduceCtorEq, seval, enb, vcb, ↓evSo_some, ↓reduceIte, reduceCtorEq, seval]) (by simp only [enb, vcb, ↓evSo_some, ↓reduceIte, reduceCtorEq, seval])
  · have h2' : ¬ (IntKind.i64.wrap (s + p) > 4000000000000000000 ∨ IntKind.i64.wrap (s + p) < 0) := by simpa using h2
    have e : runR s p = ((IntKind.i64.wrap (s + p), 0), IntKind.i64.wrap (s + p)) := by rw [runR, if_neg (of_decide_eq_false h), if_neg h2']
    rw [e]
    exact RetK.mk _ (Wk.refl _ _) (by simp only [rs63, rsb, vcb, ↓evSo_some, ↓reduceIte, reduceCtorEq, seval]) (by simp only [rs63, rsb, vcb, ↓evSo_some, ↓reduceIte, reduceCtorEq, seval, enb, vcb, ↓evSo_some, ↓reduceIte, reduceCtorEq, seval]) (by simp only [enb, vcb, ↓evSo_some, ↓reduceIte, reduceCtorEq, seval])
theorem sRun : Ctr Try.prog 53 [] [] (.fn (.func 63) [] [.own 1 0]) [(1, .fix [.d (.int .i64 0)])] [1] := by
  refine ctr_own Try.func53 ok53 rfl cc53 cr53 Try.ntmps53 (by simp) rfl ?_
  intro c hP hfn
  simp only [kc53, namesL, V.names, ownNames, vcb, ↓evSo_some, ↓reduceIte, reduceCtorEq, seval]
  exact RetK.mk _ (Wk.refl _ _) (by simp only [rs53, rsb, vcb, ↓evSo_some, ↓reduceIte, reduceCtorEq, seval]) (by simp only [rs53, rsb, vcb, ↓evSo_some, ↓reduceIte, reduceCtorEq, seval, enb, vcb, ↓evSo_some, ↓reduceIte, reduceCtorEq, seval]) (by simp only [enb, vcb, ↓evSo_some, ↓reduceIte, reduceCtorEq, seval])
structure SpI (m : Int) (l : List Int) (k : Nat) (dn : List Int) (s : Int) (over : Bool) : Prop where
  len : dn.length = k
  le : k ≤ l.length
  nn : ∀ x, x ∈ l.take k → 0 ≤ x
  st : ((l.take k).sum ≤ 4000000000000000000 ∧ s = (l.take k).sum ∧ dn = psums 0 (l.take k) ∧ over = decide (m > 4000000000000000000)) ∨ (4000000000000000000 < (l.take k).sum ∧ s = 4000000000000000001 ∧ over = true)
theorem sum_nonneg : ∀ {l : List Int}, (∀ x, x ∈ l → 0 ≤ x) → 0 ≤ l.sum
  | [], _ => by simp
  | p :: r, h => by
    have := h p (by simp)
    have ih := sum_nonneg (l := r) (fun x hx => h x (by simp [hx]))
    simp only [List.sum_cons]; omega
theorem spI_step {m : Int} {l : List Int} {k : Nat} {dn : List Int} {s : Int} {over : Bool} {x : Int} (h : SpI m l k dn s over) (hlt : k < l.length) (hat : l[k]? = some x) (hx : x ≤ 9223372036854775807) :
    ((runR s x).1.2 = 1 ∧ x < 0) ∨ (0 ≤ x ∧ (runR s x).1.2 ≠ 1 ∧ SpI m l (k + 1) (dn ++ [(runR s x).1.1]) (runR s x).2 (over || ((runR s x).1.2 == 5))) := by
  have ht : l.take (k + 1) = l.take k ++ [x] := by rw [List.take_add_one, hat]; rfl
  by_cases hneg : x < 0
  · left; rw [runR, if_pos hneg]; exact ⟨rfl, hneg⟩
  right
  have hs0 := sum_nonneg h.nn
  have hnn : ∀ y, y ∈ l.take (k + 1) → 0 ≤ y := by
    intro y hy
    rw [ht] at hy
    rcases List.mem_append.1 hy with hy | hy
    · exact h.nn y hy
    · simp at hy; omega
  have hsum : (l.take (k + 1)).sum = (l.take k).sum + x := by rw [ht]; simp
  rcases h.st with ⟨h1, h2, h3, h4⟩ | ⟨h1, h2, h3⟩
  · by_cases hov : 4000000000000000000 < (l.take k).sum + x
    · have hw : IntKind.i64.wrap (s + x) > 4000000000000000000 ∨ IntKind.i64.wrap (s + x) < 0 := by rw [IntKind.wrap_i64]; omega
      rw [runR, if_neg hneg, if_pos hw]
      exact ⟨by omega, by simp, ⟨by simp [h.len], hlt, hnn, .inr ⟨by omega, rfl, by simp⟩⟩⟩
    · have hw : IntKind.i64.wrap (s + x) = s + x := wI (by omega)
      rw [runR, if_neg hneg, hw, if_neg (by omega)]
      refine ⟨by omega, by simp, ⟨by simp [h.len], hlt, hnn, .inl ⟨by omega, by simp only; omega, ?_, by simp [h4]⟩⟩⟩
      rw [ht, psums_snoc, h3, h2]; simp
  · have hw : IntKind.i64.wrap (s + x) > 4000000000000000000 ∨ IntKind.i64.wrap (s + x) < 0 := by rw [IntKind.wrap_i64]; omega
    rw [runR, if_neg hneg, if_pos hw]
    exact ⟨by omega, by simp, ⟨by simp [h.len], hlt, hnn, .inr ⟨by omega, rfl, by simp⟩⟩⟩
theorem any_neg {l : List Int} {x : Int} (hx : x ∈ l) (h : x < 0) : l.any (fun p => decide (p < 0)) = true := by
  rw [List.any_eq_true]; exact ⟨x, hx, by simpa using h⟩
theorem any_nonneg {l : List Int} (h : ∀ x, x ∈ l → 0 ≤ x) : ¬ (l.any (fun p => decide (p < 0)) = true) := by
  rw [List.any_eq_true]; rintro ⟨x, hx, h2⟩; have := h x hx; simp at h2; omega
theorem psums_le {l : List Int} (h : ∀ x, x ∈ l → 0 ≤ x) : ∀ (n : Int), 0 ≤ n → ∀ s, s ∈ psums n l → 0 ≤ s ∧ s ≤ n + l.sum := by
  induction l with
  | nil => intro n _ s hs; simp [psums] at hs
  | cons p r ih =>
    intro n hn s hs
    have hp := h p (by simp)
    have hr := sum_nonneg (l := r) (fun x hx => h x (by simp [hx]))
    simp only [psums, List.mem_cons] at hs
    simp only [List.sum_cons]
    rcases hs with rfl | hs
    · omega
    · have := ih (fun x hx => h x (by simp [hx])) (n + p) (by omega) s hs
      omega
theorem sSplit (m : Int) (l : List Int) (hm : m ≤ 9223372036854775807) (hl : l.length ≤ 9223372036854775807) (hx : ∀ x, x ∈ l → x ≤ 9223372036854775807) :
    Ctr Try.prog 31 [.d (.int .i64 m), .d (slK .i64 l)] [] (.tup [.d (slK .i64 (splitR m l).1), .d (.int .i64 (splitR m l).2)]) [] [] := by
  refine ctr_pure Try.func31 ok31 rfl cc31 cr31 Try.ntmps31 (by simp) rfl rfl ?_; intro c hP hfn; simp only [kc31, vcb, ↓evSo_some, ↓reduceIte, reduceCtorEq, seval]
  refine ⟨fun h => ?_, fun h => ?_⟩
  · have h' : m < 0 ∨ 2000 < l.length := by simp only [Bool.or_eq_true, decide_eq_true_eq] at h; omega
    (refine RetK.pure (by simp only [rs31, rsb, vcb, ↓evSo_some, ↓reduceIte, reduceCtorEq, seval]) (VLe.tups ?_); simp only [rs31, rsb, vcb, ↓evSo_some, ↓reduceIte, reduceCtorEq, seval])
    rw [splitR, if_pos h']; exact ⟨nilK, VLe.refl _, trivial⟩
  have h0 : ¬ (m < 0 ∨ 2000 < l.length) := by simp only [Bool.or_eq_false_iff, decide_eq_false_iff_not] at h; omega
  clear h
  refine TR.call [] [(1, .fix [.d (.int .i64 0)])] _ [1] (hP ▸ sRun) (by repeat' first | exact trivial | (intro _; assumption) | apply And.intro) (by simp) (by simp [keysO]) (by simp) ?_
  simp only [vcb, ↓evSo_some, ↓reduceIte, reduceCtorEq, seval]
  repeat' first
      | refine And.intro (fun h => ?_) (fun h => ?_)
      | refine And.intro (by first | omega | (simp only [maxLen, decide_eq_true_eq, decide_eq_false_iff_not] at *; omega)) ?_
      | (refine TR.aslO rfl rfl rfl rfl trivial (Nat.le_of_ble_eq_true rfl) ?_
         try simp only [vcb, ↓evSo_some, ↓reduceIte, reduceCtorEq, seval])
      | refine And.intro trivial ?_
      | refine And.intro rfl ?_
      | fail
  refine vcC.loop (X := Nat × List Int × Int × Bool) (fun x => ⟨[(8, .osl 1000), (0, .d (.int .i64 m)), (6, .fn (.func 63) [] [.own 1 0]), (7, .d (.bool x.2.2.2)), (33, .d (slK .i64 l)), (34, .d (.int .i64 l.length)), (35, .d (.int .i64 x.1))],
        [(1000, .row 3 1 x.2.1.length (fun i => [.int .i64 (x.2.1.getD i 0)])), (1, .fix [.d (.int .i64 x.2.2.1)])], [1000, 1]⟩)
      (fun x => SpI m l x.1 x.2.1 x.2.2.1 x.2.2.2) (fun x => l.length - x.1) (0, [], 0, decide (m > 4000000000000000000)) ⟨rfl, Nat.zero_le _, by simp, .inl ⟨by simp, by simp, by simp [psums], rfl⟩⟩
      (Wk.snoc (k := 32) _ hfn rfl rfl rfl rfl (OLe.row rfl (fun i hi => absurd hi (Nat.not_lt_zero i))) (by (simp only [enb, vcb, ↓evSo_some, ↓reduceIte, reduceCtorEq, seval]) <;> (first | exact wS (by omega) | (rw [List.length_append]; exact wS (by omega)) | assumption)) (by simp only [enb, vcb, ↓evSo_some, ↓reduceIte, reduceCtorEq, seval]) (by simp) (by simp only [enb, vcb, ↓evSo_some, ↓reduceIte, reduceCtorEq, seval]) (by simp only [enb, vcb, ↓evSo_some, ↓reduceIte, reduceCtorEq, seval])) ?_
  rintro ⟨k, dn, s, over⟩ hk
  simp only at hk
  simp only [vcb, ↓evSo_some, ↓reduceIte, reduceCtorEq, seval]
  refine ⟨fun h1 => ?_, fun h1 => ?_⟩
  · have hlt : k < l.length := by have := of_decide_eq_true h1; omega
    obtain ⟨x, hd, hg, hmx, hat⟩ := drop_at hlt
    have hst := spI_step hk hlt hat (hx x hmx)
    simp only [hg]
    repeat' first
        | refine And.intro (fun h => ?_) (fun h => ?_)
        | refine And.intro (by first | omega | (simp only [maxLen, decide_eq_true_eq, decide_eq_false_iff_not] at *; omega)) ?_
        | (refine TR.aslO rfl rfl rfl rfl trivial (Nat.le_of_ble_eq_true rfl) ?_
           try simp only [vcb, ↓evSo_some, ↓reduceIte, reduceCtorEq, seval])
        | refine And.intro trivial ?_
        | refine And.intro rfl ?_
        | fail
    refine TR.cv1 hP rfl (sRun1 s x) trivial (by repeat' first | exact trivial | (intro _; assumption) | apply And.intro) (by simp only [vcb, ↓evSo_some, ↓reduceIte, reduceCtorEq, seval]) ?_
    simp only [vcb, ↓evSo_some, ↓reduceIte, reduceCtorEq, seval]
    have hdl := hk.len
    repeat' first
        | refine And.intro (fun h => ?_) (fun h => ?_)
        | refine And.intro (by first | omega | (simp only [maxLen, decide_eq_true_eq, decide_eq_false_iff_not] at *; omega)) ?_
        | (refine TR.aslO rfl rfl rfl rfl trivial (Nat.le_of_ble_eq_true rfl) ?_
           try simp only [vcb, ↓evSo_some, ↓reduceIte, reduceCtorEq, seval])
        | refine And.intro trivial ?_
        | refine And.intro rfl ?_
        | fail
    · have he : (runR s x).1.2 = 1 := eq_of_beq h
      have hneg : x < 0 := by rcases hst with h | h; exact h.2; exact absurd he h.2.1
      (refine RetK.pure (by simp only [rs31, rsb, vcb, ↓evSo_some, ↓reduceIte, reduceCtorEq, seval]) (VLe.tups ?_); simp only [rs31, rsb, vcb, ↓evSo_some, ↓reduceIte, reduceCtorEq, seval])
      rw [splitR, if_neg h0, if_pos (any_neg hmx hneg), he]; exact ⟨nilK, VLe.refl _, trivial⟩
    · have hne : (runR s x).1.2 ≠ 1 := by simpa using h
      have hst2 : SpI m l (k + 1) (dn ++ [(runR s x).1.1]) (runR s x).2 (over || ((runR s x).1.2 == 5)) := by
        rcases hst with h | h
        · exact absurd h.1 hne
        · exact h.2.2
      exact lopK.on (k + 1, dn ++ [(runR s x).1.1], (runR s x).2, (over || ((runR s x).1.2 == 5))) hst2 (by simp only; omega) (Wk.snoc (k := 56) _ hfn rfl rfl rfl rfl (OLe.app1 (cells := fun n => [.int .i64 n]) (fun i hi => by simp only [if_pos hi]) (by simp)) (by (simp only [enb, vcb, ↓evSo_some, ↓reduceIte, reduceCtorEq, seval]) <;> (first | exact wS (by omega) | (rw [List.length_append]; exact wS (by omega)) | assumption)) (by simp only [enb, vcb, ↓evSo_some, ↓reduceIte, reduceCtorEq, seval]) (by simp) (by simp only [enb, vcb, ↓evSo_some, ↓reduceIte, reduceCtorEq, seval]) (by simp only [enb, vcb, ↓evSo_some, ↓reduceIte, reduceCtorEq, seval]))
  have hkl : k = l.length := by have := of_decide_eq_false h1; have := hk.le; omega
  have hnn := hk.nn
  have hst := hk.st
  have hdl := hk.len
  rw [hkl, List.take_length] at hnn hst
  rw [hkl] at hdl
  clear hk h1
  refine ⟨fun h2 => ?_, fun h2 => ?_⟩
  · have h2' : 4000000000000000000 < l.sum ∨ 4000000000000000000 < m := by
      subst h2
      rcases hst with h | h
      · have := of_decide_eq_true h.2.2.2.symm; omega
      · omega
    (refine RetK.pure (by simp only [rs31, rsb, vcb, ↓evSo_some, ↓reduceIte, reduceCtorEq, seval]) (VLe.tups ?_); simp only [rs31, rsb, vcb, ↓evSo_some, ↓reduceIte, reduceCtorEq, seval])
    rw [splitR, if_neg h0, if_neg (any_nonneg hnn), if_pos h2']; exact ⟨nilK, VLe.refl _, trivial⟩
  have hst : l.sum ≤ 4000000000000000000 ∧ dn = psums 0 l ∧ ¬ (m > 4000000000000000000) := by
    subst h2
    rcases hst with h | h
    · exact ⟨h.1, h.2.2.1, of_decide_eq_false h.2.2.2.symm⟩
    · cases h.2.2
  have h2' : ¬ (4000000000000000000 < l.sum ∨ 4000000000000000000 < m) := by omega
  have hS0 := sum_nonneg hnn
  have hbase : splitR m l = if l.sum = 0 then ([], 6) else (deal2 m l.sum 0 (psums 0 l), 0) := by
    rw [splitR, if_neg h0, if_neg (any_nonneg hnn), if_neg h2']
  have hlast : 0 < l.length → dn.getD (dn.length - 1) 0 = l.sum := fun h => by
    rw [hdl, hst.2.1, psums_last h]; omega
  have e1 : 0 < l.length → IntKind.i64.wrap ((dn.length : Int) - 1) = ((dn.length - 1 : Nat) : Int) := fun h => (wI (by omega)).trans (by omega)
  rcases Nat.eq_zero_or_pos l.length with hz | hpos
  · have hd0 : dn.length = 0 := by omega
    refine ⟨fun h => ?_, fun h => ?_, fun h => ?_, fun h => ?_⟩
    · exfalso; simp [hd0] at h
    · exfalso; simp [hd0] at h
    · have hl0 : l = [] := List.eq_nil_of_length_eq_zero hz
      (refine RetK.pure (by simp only [rs31, rsb, vcb, ↓evSo_some, ↓reduceIte, reduceCtorEq, seval]) (VLe.tups ?_); simp only [rs31, rsb, vcb, ↓evSo_some, ↓reduceIte, reduceCtorEq, seval])
      rw [hbase, if_pos (by rw [hl0]; rfl)]; exact ⟨nilK, VLe.refl _, trivial⟩
    · exfalso; simp [hd0] at h
  simp only [e1 hpos, Int.toNat_natCast, hlast hpos]
  refine ⟨fun _ => ⟨by omega, by omega⟩, fun _ => by omega, fun h => ?_, fun h => ?_⟩
  · have h' : l.sum = 0 := by
      simp only [Bool.or_eq_true, beq_iff_eq] at h; omega
    (refine RetK.pure (by simp only [rs31, rsb, vcb, ↓evSo_some, ↓reduceIte, reduceCtorEq, seval]) (VLe.tups ?_); simp only [rs31, rsb, vcb, ↓evSo_some, ↓reduceIte, reduceCtorEq, seval])
    rw [hbase, if_pos h']; exact ⟨nilK, VLe.refl _, trivial⟩
  have hSn : ¬ l.sum = 0 := by
    simp only [Bool.or_eq_false_iff, beq_eq_false_iff_ne, ne_eq] at h; exact h.2
  clear h
  rw [if_neg hSn] at hbase
  repeat' first
      | refine And.intro (fun h => ?_) (fun h => ?_)
      | refine And.intro (by first | omega | (simp only [maxLen, decide_eq_true_eq, decide_eq_false_iff_not] at *; omega)) ?_
      | (refine TR.aslO rfl rfl rfl rfl trivial (Nat.le_of_ble_eq_true rfl) ?_
         try simp only [e1 hpos, Int.toNat_natCast, hlast hpos, vcb, ↓evSo_some, ↓reduceIte, reduceCtorEq, seval])
      | refine And.intro trivial ?_
      | refine And.intro rfl ?_
      | fail
  refine vcC.loop (X := List Int × Int) (fun x => ⟨[(0, .d (.int .i64 m)), (13, .d (.int .i64 l.sum)), (14, .osl 81), (15, .d (.int .i64 x.2)), (82, .osl 1000), (83, .d (.int .i64 dn.length)), (84, .d (.int .i64 x.1.length))],
        [(1000, .row 3 1 dn.length (fun i => [.int .i64 (dn.getD i 0)])), (81, .row 3 1 dn.length (fun i => [.int .i64 (x.1.getD i 0)]))], [1000, 81]⟩)
      (fun x => x.1.length ≤ dn.length ∧ deal2 m l.sum 0 dn = x.1 ++ deal2 m l.sum x.2 (dn.drop x.1.length)) (fun x => dn.length - x.1.length) ([], 0) ⟨Nat.zero_le _, rfl⟩
      (Wk.of _ hfn rfl (by simp only [enb, vcb, ↓evSo_some, ↓reduceIte, reduceCtorEq, seval]) (by simp only [enb, vcb, ↓evSo_some, ↓reduceIte, reduceCtorEq, seval]; exact OLe.row rfl fun i _ => by simp)) ?_
  rintro ⟨out, dealt⟩ ⟨hk, he⟩
  simp only at hk he
  simp only [vcb, ↓evSo_some, ↓reduceIte, reduceCtorEq, seval]
  refine ⟨fun h1 => ?_, fun h1 => ?_⟩
  · have hlt : out.length < dn.length := by have := of_decide_eq_true h1; omega
    obtain ⟨x, hd, hg, hmx, hat⟩ := drop_at hlt
    have hxb := psums_le hnn 0 (by omega) x (by rw [← hst.2.1]; exact hmx)
    rw [hd, deal2] at he
    simp only [hg]
    repeat' first
        | (first
            | refine TR.p hP (by first | exact sDown m x l.sum hm (by omega) (by omega)) (by repeat' first | exact trivial | (intro _; assumption) | apply And.intro) ?_
            | refine TR.gp hP rfl (fun _ => by first | exact sDown m x l.sum hm (by omega) (by omega)) (fun _ => by repeat' first | exact trivial | (intro _; assumption) | apply And.intro) ?_
            | refine TR.pv hP rfl (by first | exact sDown m x l.sum hm (by omega) (by omega)) trivial (by repeat' first | exact trivial | (intro _; assumption) | apply And.intro) ?_
           try simp only [hg, vcb, ↓evSo_some, ↓reduceIte, reduceCtorEq, seval])
        | refine And.intro (fun h => ?_) (fun h => ?_)
        | refine And.intro (by first | omega | (simp only [maxLen, decide_eq_true_eq, decide_eq_false_iff_not] at *; omega)) ?_
        | (refine TR.aslO rfl rfl rfl rfl trivial (Nat.le_of_ble_eq_true rfl) ?_
           try simp only [hg, vcb, ↓evSo_some, ↓reduceIte, reduceCtorEq, seval])
        | refine And.intro trivial ?_
        | refine And.intro rfl ?_
        | fail
    exact lopK.on (out ++ [IntKind.i64.wrap ((downR m x l.sum).1 - dealt)], (downR m x l.sum).1) ⟨by simp; omega, by rw [he]; simp⟩ (by simp; omega) (Wk.of _ hfn rfl (by (simp only [enb, vcb, ↓evSo_some, ↓reduceIte, reduceCtorEq, seval]) <;> (first | exact wS (by omega) | (rw [List.length_append]; exact wS (by omega)) | assumption)) (by simp only [enb, vcb, ↓evSo_some, ↓reduceIte, reduceCtorEq, seval]; exact OLe.snoc))
  · have hkl : out.length = dn.length := by have := of_decide_eq_false h1; omega
    rw [hkl, List.drop_length, deal2, List.append_nil] at he
    repeat' first
        | refine And.intro (fun h => ?_) (fun h => ?_)
        | refine And.intro (by first | omega | (simp only [maxLen, decide_eq_true_eq, decide_eq_false_iff_not] at *; omega)) ?_
        | (refine TR.aslO rfl rfl rfl rfl trivial (Nat.le_of_ble_eq_true rfl) ?_
           try simp only [vcb, ↓evSo_some, ↓reduceIte, reduceCtorEq, seval])
        | refine And.intro trivial ?_
        | refine And.intro rfl ?_
        | fail
    refine RetK.mk _ (Wk.pub 81 rfl) (by simp only [rs31, rsb, vcb, ↓evSo_some, ↓reduceIte, reduceCtorEq, seval]) ?_ trivial
    simp only [rs31, rsb, vcb, ↓evSo_some, ↓reduceIte, reduceCtorEq, seval]
    rw [hbase, ← hst.2.1, he]
    exact VLe.tups ⟨VLe.sl hkl.symm (fun _ => rfl) id fun i hi => rfl, VLe.refl _, trivial⟩
end Go.Proofs.Ytkifajabiggfmaa
end
section
set_option linter.unusedSimpArgs false
set_option linter.unusedVariables false
namespace Go.Proofs.Ytkifajabiggfmaa
set_option linter.unusedSimpArgs false
set_option linter.unusedVariables false
open Go.Bx
set_option maxRecDepth 10000
theorem ofR_nat {up : Nat → Nat → Nat → Bool} (A B K : Nat) (hk : 0 < K) : ofR up (A : Int) (B : Int) (K : Int) = (if 4000000000000000000 < A * B / K then (0, 5) else
      if 4000000000000000000 < A * B / K + (if up (A * B / K) (A * B % K) K = true then 1 else 0) then (0, 5)
      else (((A * B / K + (if up (A * B / K) (A * B % K) K = true then 1 else 0) : Nat) : Int), 0)) := by
  rw [ofR, if_neg (by omega), if_neg (by omega)]; rfl
end Go.Proofs.Ytkifajabiggfmaa
end
section
set_option linter.unusedSimpArgs false
set_option linter.unusedVariables false
namespace Go.Proofs.Ytkifajabiggfmaa
set_option linter.unusedSimpArgs false
set_option linter.unusedVariables false
open Go.Bx
set_option maxRecDepth 10000
theorem deal2_len (m S : Int) : ∀ (l : List Int) (d : Int), (deal2 m S d l).length = l.length
  | [], _ => rfl
  | s :: r, d => by simp [deal2, deal2_len m S r]
end Go.Proofs.Ytkifajabiggfmaa
end
section
set_option linter.unusedSimpArgs false
set_option linter.unusedVariables false
namespace Go.Proofs.Ytkifajabiggfmaa
set_option linter.unusedSimpArgs false
set_option linter.unusedVariables false
open Go.Bx
set_option maxRecDepth 10000
def putAll : List Int → List Int → List Int → List Int
  | out, i :: g, d :: ds => putAll (out.set i.toNat d) g ds
  | out, _, _ => out
theorem putAll_len : ∀ (g ds out : List Int), (putAll out g ds).length = out.length
  | [], _, _ => by simp [putAll]
  | _ :: _, [], _ => by simp [putAll]
  | i :: g, d :: ds, out => by rw [putAll, putAll_len g ds]; simp
def bearsF (t : Tr) (l : List Ls) : Int → List (List Int) → List Int → List Int
  | _, [], out => out
  | left, g :: r, out => bearsF t l (left - min left (partT t (amtsT l g).sum)) r (putAll out g (splitR (min left (partT t (amtsT l g).sum)) (amtsT l g)).1)
def bearsE (t : Tr) (l : List Ls) : List Int × Int :=
  if (t.kind != 3 || !(rightT t) || l.any (fun x => !(lossX x))) = true then ([], 1)
  else if 2000 < l.length then ([], 2)
  else (bearsF t l (roomT t) (eventsT t l) (List.replicate l.length 0), 0)
theorem amts_bounds {l : List Ls} (hl : ∀ x, x ∈ l → lossX x = true) : ∀ {g : List Int}, (∀ i, i ∈ g → 0 ≤ i ∧ i < (l.length : Int)) → (∀ a, a ∈ amtsT l g → 0 ≤ a ∧ a ≤ 1000000000000000) ∧ 0 ≤ (amtsT l g).sum ∧ (amtsT l g).sum ≤ 1000000000000000 * g.length
  | [], _ => by simp [amtsT]
  | i :: g, h => by
    have ih := amts_bounds hl (g := g) (fun j hj => h j (by simp [hj]))
    have hi := h i (by simp)
    have hlt : i.toNat < l.length := by omega
    have hm : l.getD i.toNat default ∈ l := by rw [List.getD_eq_getElem?_getD, List.getElem?_eq_getElem hlt]; exact List.getElem_mem hlt
    have ha := (lossX_iff.1 (hl _ hm)).2.2.2.2
    refine ⟨fun a hm' => ?_, ?_⟩
    · simp only [amtsT, List.map_cons, List.mem_cons] at hm'
      rcases hm' with rfl | hm'
      · exact ha
      · exact ih.1 a hm'
    · have := ih.2
      simp only [amtsT, List.map_cons, List.sum_cons, List.length_cons] at this ⊢
      omega
theorem split_len (m : Int) (l : List Int) : (splitR m l).1.length ≤ l.length ∧ ((splitR m l).2 ≠ 0 → (splitR m l).1 = []) := by
  unfold splitR
  split
  · simp
  · split
    · simp
    · split
      · simp
      · split
        · simp
        · simp [deal2_len, psums_len]
def gD (G : List (List Int)) : V := .d (.sl false 1 G.length (nestD 0 cI 1 G))
theorem part_nn (t : Tr) {amt : Int} (h0 : 0 ≤ amt) (h1 : amt ≤ 9000000000000000000) : 0 ≤ partT t amt := by
  unfold partT
  split
  · omega
  · rename_i h
    have h' : highT t = true ∧ ¬ amt ≤ t.att := by simpa using h
    have hb := high_bounds h'.1
    rw [wI (by omega)]
    omega
theorem putI {cur : List Int} {n i : Nat} {m : Int} (hi : i < cur.length) : (if i = n then putD [.int .i64 (cur.getD n 0)] 0 [.int .i64 m] else [.int .i64 (cur.getD i 0)] : List D) = [.int .i64 ((cur.set n m).getD i 0)] := by
  by_cases e : i = n
  · subst e; simp [putD, hi]
  · rw [if_neg e]; simp [List.getD_eq_getElem?_getD, List.getElem?_set_ne (fun g : n = i => e g.symm)]
set_option maxHeartbeats 4000000 in
theorem sBears (t : Tr) (l : List Ls) (hl : l.length ≤ 1000000) : Ctr Try.prog 17 [vT t, .d (slX l)] [] (.tup [.d (slK .i64 (bearsE t l).1), .d (.int .i64 (bearsE t l).2)]) [] [] := by
  have cr := s26 t
  have ce := sEvents t l hl
  have cm := s20 t
  simp only [vT, cT] at cr cm
  simp only [vT, cT, slX] at ce
  refine ctr_pure Try.func17 ok17 rfl cc17 cr17 Try.ntmps17 (by simp) rfl rfl ?_; intro c hP hfn; simp only [kc17, vT, cT, slX, vcb, ↓evSo_some, ↓reduceIte, reduceCtorEq, seval]
  repeat' first
      | (first
          | refine TR.p hP (by first | exact cr) (by repeat' first | exact trivial | (intro _; assumption) | apply And.intro) ?_
          | refine TR.gp hP rfl (fun _ => by first | exact cr) (fun _ => by repeat' first | exact trivial | (intro _; assumption) | apply And.intro) ?_
          | refine TR.pv hP rfl (by first | exact cr) trivial (by repeat' first | exact trivial | (intro _; assumption) | apply And.intro) ?_
         try simp only [vcb, ↓evSo_some, ↓reduceIte, reduceCtorEq, seval])
      | refine And.intro (fun h => ?_) (fun h => ?_)
      | refine And.intro (by first | omega | (simp only [maxLen, decide_eq_true_eq, decide_eq_false_iff_not] at *; omega)) ?_
      | (refine TR.aslO rfl rfl rfl rfl trivial (Nat.le_of_ble_eq_true rfl) ?_
         try simp only [vcb, ↓evSo_some, ↓reduceIte, reduceCtorEq, seval])
      | refine And.intro trivial ?_
      | refine And.intro rfl ?_
      | fail
  · have e : bearsE t l = ([], 1) := by
      have h' : (t.kind != 3 || !(rightT t)) = true := by simpa using h
      rw [bearsE, if_pos (by rw [h', Bool.true_or])]
    (refine RetK.pure (by simp only [rs17, rsb, vcb, ↓evSo_some, ↓reduceIte, reduceCtorEq, seval]) (VLe.tups ?_); simp only [rs17, rsb, vcb, ↓evSo_some, ↓reduceIte, reduceCtorEq, seval])
    rw [e]; exact ⟨nilK, VLe.refl _, trivial⟩
  have hk : t.kind = 3 ∧ rightT t = true := by simpa using h
  clear h
  refine vcC.loop (X := Nat) (fun k => ⟨[(1, .d (slX l)), (2, .own 2 0), (29, .d (slX l)), (30, .d (.int .i64 l.length)), (31, .d (.int .i64 k))], [(2, .fix (cT t))], [2]⟩)
    (fun k => k ≤ l.length ∧ l.any (fun x => !(lossX x)) = (l.drop k).any (fun x => !(lossX x))) (fun k => l.length - k) 0 ⟨Nat.zero_le _, rfl⟩ (Wk.of _ hfn rfl (by simp only [slX, enb, vcb, ↓evSo_some, ↓reduceIte, reduceCtorEq, seval]) (by simp only [cT, enb, vcb, ↓evSo_some, ↓reduceIte, reduceCtorEq, seval])) ?_
  rintro k ⟨hkl, he⟩
  simp only [slX, cT, vcb, ↓evSo_some, ↓reduceIte, reduceCtorEq, seval]
  refine ⟨fun h1 => ?_, fun h1 => ?_⟩
  · have hlt : k < l.length := by have := of_decide_eq_true h1; omega
    obtain ⟨x, hd, hg, -, -⟩ := drop_at hlt
    have cl := s28 x
    simp only [vX, cX'] at cl
    rw [hd, List.any_cons] at he
    simp only [hg, vcb, ↓evSo_some, ↓reduceIte, reduceCtorEq, seval]
    repeat' first
        | (first
            | refine TR.p hP (by first | exact cl) (by repeat' first | exact trivial | (intro _; assumption) | apply And.intro) ?_
            | refine TR.gp hP rfl (fun _ => by first | exact cl) (fun _ => by repeat' first | exact trivial | (intro _; assumption) | apply And.intro) ?_
            | refine TR.pv hP rfl (by first | exact cl) trivial (by repeat' first | exact trivial | (intro _; assumption) | apply And.intro) ?_
           try simp only [hg, vcb, ↓evSo_some, ↓reduceIte, reduceCtorEq, seval])
        | refine And.intro (fun h => ?_) (fun h => ?_)
        | refine And.intro (by first | omega | (simp only [maxLen, decide_eq_true_eq, decide_eq_false_iff_not] at *; omega)) ?_
        | (refine TR.aslO rfl rfl rfl rfl trivial (Nat.le_of_ble_eq_true rfl) ?_
           try simp only [hg, vcb, ↓evSo_some, ↓reduceIte, reduceCtorEq, seval])
        | refine And.intro trivial ?_
        | refine And.intro rfl ?_
        | fail
    · have e : bearsE t l = ([], 1) := by
        rw [h, Bool.true_or] at he
        rw [bearsE, if_pos (by rw [he, Bool.or_true])]
      (refine RetK.pure (by simp only [rs17, rsb, vcb, ↓evSo_some, ↓reduceIte, reduceCtorEq, seval]) (VLe.tups ?_); simp only [rs17, rsb, vcb, ↓evSo_some, ↓reduceIte, reduceCtorEq, seval])
      rw [e]; exact ⟨nilK, VLe.refl _, trivial⟩
    · rw [h, Bool.false_or] at he
      exact lopK.on (k + 1) ⟨hlt, he⟩ (by omega) (Wk.of _ hfn rfl (by simp only [slX, enb, vcb, ↓evSo_some, ↓reduceIte, reduceCtorEq, seval]; exact wS (by omega)) (by simp only [cT, enb, vcb, ↓evSo_some, ↓reduceIte, reduceCtorEq, seval]))
  have hkk : k = l.length := by have := of_decide_eq_false h1; omega
  rw [hkk, List.drop_length, List.any_nil] at he
  have hX : ∀ x, x ∈ l → lossX x = true := fun x hx => by
    have := List.any_eq_false.1 he x hx
    simpa using this
  have e0 : bearsE t l = if 2000 < l.length then ([], 2) else (bearsF t l (roomT t) (eventsT t l) (List.replicate l.length 0), 0) := by
    rw [bearsE, if_neg (by rw [he, hk.1, hk.2]; simp)]
  clear he h1 hkk hkl
  repeat' first
      | (first
          | refine TR.p hP (by first | exact cm | exact ce) (by repeat' first | exact trivial | (intro _; assumption) | apply And.intro) ?_
          | refine TR.gp hP rfl (fun _ => by first | exact cm | exact ce) (fun _ => by repeat' first | exact trivial | (intro _; assumption) | apply And.intro) ?_
          | refine TR.pv hP rfl (by first | exact cm | exact ce) trivial (by repeat' first | exact trivial | (intro _; assumption) | apply And.intro) ?_
         try simp only [vcb, ↓evSo_some, ↓reduceIte, reduceCtorEq, seval])
      | refine And.intro (fun h => ?_) (fun h => ?_)
      | refine And.intro (by first | omega | (simp only [maxLen, decide_eq_true_eq, decide_eq_false_iff_not] at *; omega)) ?_
      | (refine TR.aslO rfl rfl rfl rfl trivial (Nat.le_of_ble_eq_true rfl) ?_
         try simp only [vcb, ↓evSo_some, ↓reduceIte, reduceCtorEq, seval])
      | refine And.intro trivial ?_
      | refine And.intro rfl ?_
      | fail
  · have h2 : 2000 < l.length := by have := of_decide_eq_true h; omega
    rw [if_pos h2] at e0
    (refine RetK.pure (by simp only [rs17, rsb, vcb, ↓evSo_some, ↓reduceIte, reduceCtorEq, seval]) (VLe.tups ?_); simp only [rs17, rsb, vcb, ↓evSo_some, ↓reduceIte, reduceCtorEq, seval])
    rw [e0]; exact ⟨nilK, VLe.refl _, trivial⟩
  have h2 : ¬ 2000 < l.length := by have := of_decide_eq_false h; omega
  rw [if_neg h2] at e0
  clear h
  have hev := events_ok t l
  have hroom := (roomT_eq t).2
  generalize hG : eventsT t l = G at *
  have hbs := fun g (hg : g ∈ G) => amts_bounds hX (hev.2.2 g hg)
  refine vcC.loop (X := Nat × Int × List Int) (fun x => ⟨[(1, .d (slX l)), (2, .own 2 0), (8, .osl 44), (9, .d (.int .i64 x.2.1)), (49, gD G), (50, .d (.int .i64 G.length)), (51, .d (.int .i64 x.1))],
      [(2, .fix (cT t)), (44, .row 3 1 x.2.2.length (fun i => [.int .i64 (x.2.2.getD i 0)]))], [2, 44]⟩)
    (fun x => x.1 ≤ G.length ∧ x.2.2.length = l.length ∧ 0 ≤ x.2.1 ∧ x.2.1 ≤ roomT t ∧ bearsF t l (roomT t) G (List.replicate l.length 0) = bearsF t l x.2.1 (G.drop x.1) x.2.2) (fun x => G.length - x.1) (0, roomT t, List.replicate l.length 0) ⟨Nat.zero_le _, by simp, hroom.1, Int.le_refl _, rfl⟩
    (Wk.of _ hfn rfl (by simp only [slX, gD, enb, vcb, ↓evSo_some, ↓reduceIte, reduceCtorEq, seval]) (by simp only [cT, enb, vcb, ↓evSo_some, ↓reduceIte, reduceCtorEq, seval]; exact OLe.row (by simp) fun i hi => by simp [List.getD_eq_getElem?_getD, List.getElem?_replicate, hi])) ?_
  rintro ⟨j, left, out⟩ ⟨hj, hout, hl0, hl1, he⟩
  simp only at hj hout hl0 hl1 he
  simp only [slX, cT, gD, vcb, ↓evSo_some, ↓reduceIte, reduceCtorEq, seval]
  refine ⟨fun h1 => ?_, fun h1 => ?_⟩
  · have hlt : j < G.length := by have := of_decide_eq_true h1; omega
    obtain ⟨g, hd, hgd, hgm, -⟩ := drop_at hlt
    have hgb := hbs g hgm
    have hge := hev.2.1 g hgm
    have hgi := hev.2.2 g hgm
    rw [hd, bearsF] at he
    simp only [nestD, cI, hgd, vcb, ↓evSo_some, ↓reduceIte, reduceCtorEq, seval]
    repeat' first
        | refine And.intro (fun h => ?_) (fun h => ?_)
        | refine And.intro (by first | omega | (simp only [maxLen, decide_eq_true_eq, decide_eq_false_iff_not] at *; omega)) ?_
        | (refine TR.aslO rfl rfl rfl rfl trivial (Nat.le_of_ble_eq_true rfl) ?_
           try simp only [nestD, cI, hgd, vcb, ↓evSo_some, ↓reduceIte, reduceCtorEq, seval])
        | refine And.intro trivial ?_
        | refine And.intro rfl ?_
        | fail
    refine vcC.loop (X := Nat) (fun i => ⟨[(1, .d (slX l)), (2, .own 2 0), (8, .osl 44), (9, .d (.int .i64 left)), (49, gD G), (50, .d (.int .i64 G.length)), (51, .d (.int .i64 j)), (11, .d (slK .i64 g)), (55, .d (slK .i64 g)), (56, .d (.int .i64 g.length)), (57, .d (.int .i64 i)), (12, .osl 1000), (13, .d (.int .i64 (amtsT l (g.take i)).sum))],
        [(2, .fix (cT t)), (44, .row 3 1 out.length (fun i => [.int .i64 (out.getD i 0)])), (1000, .row 3 1 (amtsT l (g.take i)).length (fun q => [.int .i64 ((amtsT l (g.take i)).getD q 0)]))], [2, 44, 1000]⟩)
      (fun i => i ≤ g.length) (fun i => g.length - i) 0 (Nat.zero_le _)
      ((Wk.row0 (s := 12) (k := 1000) (e := 3) (sz := 1) (f' := fun _ => []) rfl rfl (by simp)).trans (Wk.of _ hfn rfl (by simp only [slX, gD, nestD, cI, amtsT, List.take_zero, List.map_nil, List.sum_nil, enb, vcb, ↓evSo_some, ↓reduceIte, reduceCtorEq, seval]) (by simp only [cT, amtsT, List.take_zero, List.map_nil, enb, vcb, ↓evSo_some, ↓reduceIte, reduceCtorEq, seval]; exact OLe.row rfl (fun i hi => absurd hi (Nat.not_lt_zero i))))) ?_
    rintro i hi
    simp only [slX, cT, gD, vcb, ↓evSo_some, ↓reduceIte, reduceCtorEq, seval]
    refine ⟨fun h2 => ?_, fun h2 => ?_⟩
    · have hli : i < g.length := by have := of_decide_eq_true h2; omega
      obtain ⟨x, hd2, hgx, hxm, hat⟩ := drop_at hli
      have hb := hgi x hxm
      have htk : g.take (i + 1) = g.take i ++ [x] := by rw [List.take_add_one, hat]; rfl
      have hal : (amtsT l (g.take i)).length = i := by rw [amtsT, List.length_map, List.length_take]; omega
      have hs1 := amts_bounds hX (g := g.take i) (fun q hq => hgi q (List.mem_of_mem_take hq))
      have hs2 := amts_bounds hX (g := g.take (i + 1)) (fun q hq => hgi q (List.mem_of_mem_take hq))
      have hl1 : (g.take (i + 1)).length ≤ 2000 := by rw [List.length_take]; omega
      have hs3 : (amtsT l (g.take (i + 1))).sum = (amtsT l (g.take i)).sum + (l.getD x.toNat default).amt := by rw [htk, amts_snoc, List.sum_append]; simp
      have ew : IntKind.i64.wrap ((amtsT l (g.take i)).sum + (l.getD x.toNat default).amt) = (amtsT l (g.take (i + 1))).sum := by rw [← hs3]; exact wI (by omega)
      have hbytes : ((amtsT l (g.take i)).length + 1) * 8 ≤ 140737488355328 := by omega
      have hmx : (amtsT l (g.take i)).length + 1 ≤ maxLen := by simp only [maxLen]; omega
      simp only [hgx, ew, vcb, ↓evSo_some, ↓reduceIte, reduceCtorEq, seval]
      repeat' first
          | refine And.intro (fun h => ?_) (fun h => ?_)
          | refine And.intro (by first | omega | (simp only [maxLen, decide_eq_true_eq, decide_eq_false_iff_not] at *; omega)) ?_
          | (refine TR.aslO rfl rfl rfl rfl trivial (Nat.le_of_ble_eq_true rfl) ?_
             try simp only [hgx, ew, vcb, ↓evSo_some, ↓reduceIte, reduceCtorEq, seval])
          | refine And.intro trivial ?_
          | refine And.intro rfl ?_
          | fail
      exact lopK.on (i + 1) hli (by omega) ((Wk.sw 68 1000 _ hfn (by simp) (by simp)).trans (Wk.of _ hfn rfl (by simp only [slX, gD, enb, vcb, ↓evSo_some, ↓reduceIte, reduceCtorEq, seval]; exact wS (by omega)) (by simp only [cT, htk, amts_snoc, enb, vcb, ↓evSo_some, ↓reduceIte, reduceCtorEq, seval]; exact OLe.app1 (fun n : Int => [.int .i64 n]) (fun i hi => by simp [hi]) (by simp [litRow]))))
    have hig : i = g.length := by have := of_decide_eq_false h2; omega
    subst hig
    simp only [List.take_length]
    clear h2 hi
    have hsum : (amtsT l g).sum ≤ 2000000000000000000 := by have := hgb.2.2; omega
    have cp := s18 t (amtsT l g).sum
    simp only [vT, cT] at cp
    repeat' first
        | (first
            | refine TR.p hP (by first | exact cp) (by repeat' first | exact trivial | (intro _; assumption) | apply And.intro) ?_
            | refine TR.gp hP rfl (fun _ => by first | exact cp) (fun _ => by repeat' first | exact trivial | (intro _; assumption) | apply And.intro) ?_
            | refine TR.pv hP rfl (by first | exact cp) trivial (by repeat' first | exact trivial | (intro _; assumption) | apply And.intro) ?_
           try simp only [vcb, ↓evSo_some, ↓reduceIte, reduceCtorEq, seval])
        | refine And.intro (fun h => ?_) (fun h => ?_)
        | refine And.intro (by first | omega | (simp only [maxLen, decide_eq_true_eq, decide_eq_false_iff_not] at *; omega)) ?_
        | (refine TR.aslO rfl rfl rfl rfl trivial (Nat.le_of_ble_eq_true rfl) ?_
           try simp only [vcb, ↓evSo_some, ↓reduceIte, reduceCtorEq, seval])
        | refine And.intro trivial ?_
        | refine And.intro rfl ?_
        | fail
    have hpn := part_nn t (amt := (amtsT l g).sum) hgb.2.1 (by omega)
    generalize hb : min left (partT t (amtsT l g).sum) = b at *
    have hb0 : 0 ≤ b ∧ b ≤ left := by omega
    have ewl : IntKind.i64.wrap (left - b) = left - b := wI (by omega)
    have csp := sSplit b (amtsT l g) (by omega) (by rw [amtsT, List.length_map]; omega) (fun x hx => by have := (hgb.1 x hx).2; omega)
    have hsl := split_len b (amtsT l g)
    simp only [slK] at csp
    simp only [ewl]
    refine TR.pub hP 1000 rfl csp (by repeat' first | exact trivial | (intro _; assumption) | apply And.intro) ?_
    simp only [vcb, ↓evSo_some, ↓reduceIte, reduceCtorEq, seval]
    repeat' first
        | refine And.intro (fun h => ?_) (fun h => ?_)
        | refine And.intro (by first | omega | (simp only [maxLen, decide_eq_true_eq, decide_eq_false_iff_not] at *; omega)) ?_
        | (refine TR.aslO rfl rfl rfl rfl trivial (Nat.le_of_ble_eq_true rfl) ?_
           try simp only [vcb, ↓evSo_some, ↓reduceIte, reduceCtorEq, seval])
        | refine And.intro trivial ?_
        | refine And.intro rfl ?_
        | fail
    have hsn : (amtsT l g).length = g.length := by rw [amtsT, List.length_map]
    generalize hds : (splitR b (amtsT l g)).1 = ds at *
    refine vcC.loop (X := Nat × List Int) (fun x => ⟨[(1, .d (slX l)), (2, .own 2 0), (8, .osl 44), (9, .d (.int .i64 (left - b))), (49, gD G), (50, .d (.int .i64 G.length)), (51, .d (.int .i64 j)), (11, .d (slK .i64 g)), (91, .d (slK .i64 ds)), (92, .d (.int .i64 ds.length)), (93, .d (.int .i64 x.1))],
        [(2, .fix (cT t)), (44, .row 3 1 x.2.length (fun i => [.int .i64 (x.2.getD i 0)]))], [2, 44]⟩)
      (fun x => x.1 ≤ ds.length ∧ x.2.length = l.length ∧ putAll out g ds = putAll x.2 (g.drop x.1) (ds.drop x.1)) (fun x => ds.length - x.1) (0, out) ⟨Nat.zero_le _, hout, rfl⟩
      (Wk.of _ hfn rfl (by simp only [slX, gD, nestD, cI, enb, vcb, ↓evSo_some, ↓reduceIte, reduceCtorEq, seval]) (by simp only [cT, enb, vcb, ↓evSo_some, ↓reduceIte, reduceCtorEq, seval])) ?_
    rintro ⟨q, cur⟩ ⟨hq, hcur, hpa⟩
    simp only at hq hcur hpa
    simp only [slX, cT, gD, vcb, ↓evSo_some, ↓reduceIte, reduceCtorEq, seval]
    refine ⟨fun h3 => ?_, fun h3 => ?_⟩
    · have hlq : q < ds.length := by have := of_decide_eq_true h3; omega
      obtain ⟨m, hd3, hgm3, -, -⟩ := drop_at hlq
      obtain ⟨x, hd4, hgx, hxm, -⟩ := drop_at (l := g) (k := q) (by omega)
      have hb4 := hgi x hxm
      have hb5 : (0 : Int) ≤ x ∧ x < (cur.length : Int) := by rw [hcur]; exact hb4
      rw [hd3, hd4, putAll] at hpa
      simp only [hgm3, hgx, vcb, ↓evSo_some, ↓reduceIte, reduceCtorEq, seval]
      repeat' first
          | refine And.intro (fun h => ?_) (fun h => ?_)
          | refine And.intro (by first | omega | (simp only [maxLen, decide_eq_true_eq, decide_eq_false_iff_not] at *; omega)) ?_
          | (refine TR.aslO rfl rfl rfl rfl trivial (Nat.le_of_ble_eq_true rfl) ?_
             try simp only [hgm3, hgx, vcb, ↓evSo_some, ↓reduceIte, reduceCtorEq, seval])
          | refine And.intro trivial ?_
          | refine And.intro rfl ?_
          | fail
      refine lopK.on (q + 1, cur.set x.toNat m) ⟨hlq, by simp [hcur], hpa⟩ (by simp only; omega) (Wk.of _ hfn rfl (by simp only [slX, gD, enb, vcb, ↓evSo_some, ↓reduceIte, reduceCtorEq, seval]; exact wS (by omega)) (by simp only [cT, enb, vcb, ↓evSo_some, ↓reduceIte, reduceCtorEq, seval]; exact OLe.row (by simp) fun i hi => putI hi))
    · have hqd : q = ds.length := by have := of_decide_eq_false h3; omega
      have hfin : putAll cur (g.drop q) (ds.drop q) = cur := by
        rw [hqd, List.drop_length]
        cases g.drop ds.length <;> simp [putAll]
      rw [hfin] at hpa
      rw [hpa] at he
      try simp only [vcb, ↓evSo_some, ↓reduceIte, reduceCtorEq, seval]
      exact lopK.on (j + 1, left - b, cur) ⟨hlt, hcur, by simp only; omega, by simp only; omega, he⟩ (by simp only; omega) (Wk.of _ hfn rfl (by simp only [slX, gD, enb, vcb, ↓evSo_some, ↓reduceIte, reduceCtorEq, seval]; exact wS (by omega)) (by simp only [cT, enb, vcb, ↓evSo_some, ↓reduceIte, reduceCtorEq, seval]))
  · have hjn : j = G.length := by have := of_decide_eq_false h1; omega
    rw [hjn, List.drop_length, bearsF] at he
    repeat' first
        | refine And.intro (fun h => ?_) (fun h => ?_)
        | refine And.intro (by first | omega | (simp only [maxLen, decide_eq_true_eq, decide_eq_false_iff_not] at *; omega)) ?_
        | (refine TR.aslO rfl rfl rfl rfl trivial (Nat.le_of_ble_eq_true rfl) ?_
           try simp only [vcb, ↓evSo_some, ↓reduceIte, reduceCtorEq, seval])
        | refine And.intro trivial ?_
        | refine And.intro rfl ?_
        | fail
    refine RetK.mk _ ((Wk.of (b := ⟨[(4, .osl 44), (5, .d (.int .i64 0))], [(44, .row 3 1 out.length (fun i => [.int .i64 (out.getD i 0)]))], [44]⟩) _ hfn rfl (by simp only [enb, vcb, ↓evSo_some, ↓reduceIte, reduceCtorEq, seval]) (by simp only [enb, vcb, ↓evSo_some, ↓reduceIte, reduceCtorEq, seval])).trans (Wk.pub 44 rfl)) (by simp only [rs17, rsb, vcb, ↓evSo_some, ↓reduceIte, reduceCtorEq, seval]) ?_ trivial
    simp only [rs17, rsb, vcb, ↓evSo_some, ↓reduceIte, reduceCtorEq, seval]
    rw [e0, he]; exact VLe.tups ⟨VLe.refl _, VLe.refl _, trivial⟩
end Go.Proofs.Ytkifajabiggfmaa
end
section
set_option linter.unusedSimpArgs false
set_option linter.unusedVariables false
namespace Go.Proofs.Ytkifajabiggfmaa
set_option linter.unusedSimpArgs false
set_option linter.unusedVariables false
section
variable {X : Type} (d : X) (less : X → X → Bool)
def swp (l : List X) (i j : Nat) : List X := (l.set i (l.getD j d)).set j (l.getD i d)
theorem swp_len (l : List X) (i j : Nat) : (swp d l i j).length = l.length := by simp [swp]
theorem swp_get {l : List X} {i j : Nat} (hi : i < l.length) (hj : j < l.length) (m : Nat) : (swp d l i j).getD m d = if m = j then l.getD i d else if m = i then l.getD j d else l.getD m d := by
  simp only [swp, List.getD_eq_getElem?_getD, List.getElem?_set, List.length_set]
  by_cases h1 : j = m
  · subst h1; simp [hj]
  · have h1' : ¬ m = j := fun e => h1 e.symm
    rw [if_neg h1, if_neg h1']
    by_cases h2 : i = m
    · subst h2; simp [hi]
    · have h2' : ¬ m = i := fun e => h2 e.symm
      rw [if_neg h2, if_neg h2']
theorem swp_perm {l : List X} {i j : Nat} (hi : i < l.length) (hj : j < l.length) : (swp d l i j).Perm l := by
  have := List.set_set_perm hi hj
  simpa [swp, List.getD_eq_getElem?_getD, List.getElem?_eq_getElem hi, List.getElem?_eq_getElem hj] using this
def upL (j : Nat) (l : List X) : List X :=
  if _h : j = 0 then l else if less (l.getD j d) (l.getD ((j - 1) / 2) d) then upL ((j - 1) / 2) (swp d l ((j - 1) / 2) j) else l
termination_by j
decreasing_by omega
def kidL (i n : Nat) (l : List X) : Nat := if 2 * i + 2 < n ∧ less (l.getD (2 * i + 2) d) (l.getD (2 * i + 1) d) = true then 2 * i + 2 else 2 * i + 1
theorem kid_gt (i n : Nat) (l : List X) : i < kidL d less i n l := by unfold kidL; split <;> omega
def downL (i n : Nat) (l : List X) : List X :=
  if h : 2 * i + 1 < n then if less (l.getD (kidL d less i n l) d) (l.getD i d) then downL (kidL d less i n l) n (swp d l i (kidL d less i n l)) else l else l
termination_by n - i
decreasing_by
  have := kid_gt d less i n l
  omega
def pushL (l : List X) (x : X) : List X := upL d less l.length (l ++ [x])
def popL (l : List X) : List X := downL d less 0 (l.length - 1) (swp d l 0 (l.length - 1))
theorem upL_len (j : Nat) (l : List X) : (upL d less j l).length = l.length := by
  induction j using Nat.strongRecOn generalizing l with
  | _ j ih =>
    rw [upL]
    split
    · rfl
    · split
      · rw [ih _ (by omega), swp_len]
      · rfl
theorem downL_len (i n : Nat) (l : List X) : (downL d less i n l).length = l.length := by
  generalize hm : n - i = m
  induction m using Nat.strongRecOn generalizing i l with
  | _ m ih =>
    rw [downL]
    split
    · split
      · have := kid_gt d less i n l
        rw [ih _ (by omega) _ _ rfl, swp_len]
      · rfl
    · rfl
theorem upL_perm (j : Nat) {l : List X} (hj : j < l.length) : (upL d less j l).Perm l := by
  induction j using Nat.strongRecOn generalizing l with
  | _ j ih =>
    rw [upL]
    split
    · exact List.Perm.refl _
    · split
      · exact (ih _ (by omega) (by rw [swp_len]; omega)).trans (swp_perm d (by omega) hj)
      · exact List.Perm.refl _
theorem kid_lt {i n : Nat} {l : List X} (h : 2 * i + 1 < n) : kidL d less i n l < n := by unfold kidL; split <;> omega
theorem downL_perm (i n : Nat) {l : List X} (hn : n ≤ l.length) : (downL d less i n l).Perm l := by
  generalize hm : n - i = m
  induction m using Nat.strongRecOn generalizing i l with
  | _ m ih =>
    rw [downL]
    split
    · rename_i h
      split
      · have h1 := kid_gt d less i n l
        have h2 := kid_lt d less (l := l) h
        exact (ih _ (by omega) _ (by rw [swp_len]; exact hn) rfl).trans (swp_perm d (by omega) (by omega))
      · exact List.Perm.refl _
    · exact List.Perm.refl _
theorem downL_above (i n : Nat) {l : List X} (hn : n ≤ l.length) (m : Nat) (hm : n ≤ m) : (downL d less i n l).getD m d = l.getD m d := by
  generalize hk : n - i = k
  induction k using Nat.strongRecOn generalizing i l with
  | _ k ih =>
    rw [downL]
    split
    · rename_i h
      split
      · have h1 := kid_gt d less i n l
        have h2 := kid_lt d less (l := l) h
        rw [ih _ (by omega) _ (by rw [swp_len]; exact hn) rfl, swp_get d (by omega) (by omega), if_neg (by omega), if_neg (by omega)]
      · rfl
    · rfl
def Heap (n : Nat) (l : List X) : Prop := ∀ i, 0 < i → i < n → less (l.getD i d) (l.getD ((i - 1) / 2) d) = false
variable (htr : ∀ a b c, less b a = false → less c b = false → less c a = false) (has : ∀ a b, less a b = true → less b a = false)
include htr has
theorem up_heap (j n : Nat) {l : List X} (hn : n = l.length) (hj : j < n) (h1 : ∀ i, 0 < i → i < n → i ≠ j → less (l.getD i d) (l.getD ((i - 1) / 2) d) = false)
    (h2 : ∀ i, 0 < i → i < n → (i - 1) / 2 = j → 0 < j → less (l.getD i d) (l.getD ((j - 1) / 2) d) = false) : Heap d less n (upL d less j l) := by
  induction j using Nat.strongRecOn generalizing l with
  | _ j ih =>
    rw [upL]
    split
    · rename_i h0
      subst h0
      exact fun i hi hin => h1 i hi hin (by omega)
    · rename_i h0
      split
      · rename_i hl
        have hp : (j - 1) / 2 < l.length := by omega
        have hg := fun m => swp_get d hp (hn ▸ hj) m
        generalize hpe : (j - 1) / 2 = p at *
        have hpj : p < j := by omega
        refine ih p hpj (by rw [swp_len]; exact hn) (by omega) (fun i hi hin hne => ?_) (fun i hi hin hpi h0p => ?_)
        · rw [hg i, hg ((i - 1) / 2)]
          by_cases e1 : i = j
          · subst e1
            rw [if_pos rfl, hpe, if_neg (by omega), if_pos rfl]
            exact has _ _ hl
          · rw [if_neg e1, if_neg hne]
            by_cases e2 : (i - 1) / 2 = j
            · rw [if_pos e2]
              exact h2 i hi hin e2 (by omega)
            · rw [if_neg e2]
              by_cases e3 : (i - 1) / 2 = p
              · rw [if_pos e3]
                have := h1 i hi hin e1
                rw [e3] at this
                exact htr _ _ _ (has _ _ hl) this
              · rw [if_neg e3]
                exact h1 i hi hin e1
        · rw [hg i, hg ((p - 1) / 2)]
          rw [if_neg (show ¬ (p - 1) / 2 = j by omega), if_neg (show ¬ (p - 1) / 2 = p by omega)]
          have hpp := h1 p h0p (by omega) (by omega)
          by_cases e1 : i = j
          · rw [if_pos e1]; exact hpp
          · rw [if_neg e1, if_neg (by omega)]
            have := h1 i hi hin e1
            rw [hpi] at this
            exact htr _ _ _ hpp this
      · rename_i hl
        intro i hi hin
        by_cases e : i = j
        · subst e; simpa using hl
        · exact h1 i hi hin e
theorem down_heap (i0 n : Nat) {l : List X} (hn : n ≤ l.length) (h1 : ∀ i, 0 < i → i < n → (i - 1) / 2 ≠ i0 → less (l.getD i d) (l.getD ((i - 1) / 2) d) = false)
    (h2 : ∀ i, 0 < i → i < n → (i - 1) / 2 = i0 → 0 < i0 → less (l.getD i d) (l.getD ((i0 - 1) / 2) d) = false) : Heap d less n (downL d less i0 n l) := by
  generalize hk : n - i0 = k
  induction k using Nat.strongRecOn generalizing i0 l with
  | _ k ih =>
    rw [downL]
    split
    · rename_i h
      have hkg := kid_gt d less i0 n l
      have hkl := kid_lt d less (l := l) h
      have hmin : ∀ i, 0 < i → i < n → (i - 1) / 2 = i0 → i ≠ kidL d less i0 n l → less (l.getD i d) (l.getD (kidL d less i0 n l) d) = false := by
        intro i hi hin hp hne
        unfold kidL at hne ⊢
        split at hne
        · rename_i hc
          rw [if_pos hc]
          have : i = 2 * i0 + 1 := by omega
          subst this
          exact has _ _ hc.2
        · rename_i hc
          rw [if_neg hc]
          have : i = 2 * i0 + 2 := by omega
          subst this
          have : ¬ less (l.getD (2 * i0 + 2) d) (l.getD (2 * i0 + 1) d) = true := fun e => hc ⟨hin, e⟩
          simpa using this
      have hpk : (kidL d less i0 n l - 1) / 2 = i0 := by unfold kidL; split <;> omega
      generalize kidL d less i0 n l = j at *
      split
      · rename_i hl
        have hg := fun m => swp_get d (l := l) (i := i0) (j := j) (by omega) (by omega) m
        refine ih (n - j) (by omega) j (by rw [swp_len]; exact hn) (fun i hi hin hne => ?_) (fun i hi hin hpi h0j => ?_) rfl
        · rw [hg i, hg ((i - 1) / 2), if_neg (show ¬ (i - 1) / 2 = j from hne)]
          by_cases e1 : i = j
          · rw [if_pos e1, if_pos (by rw [e1]; exact hpk)]
            exact has _ _ hl
          · rw [if_neg e1]
            by_cases e2 : (i - 1) / 2 = i0
            · rw [if_neg (by omega), if_pos e2]
              exact hmin i hi hin e2 e1
            · rw [if_neg e2]
              by_cases e3 : i = i0
              · rw [if_pos e3, e3]
                exact h2 j (by omega) hkl hpk (by omega)
              · rw [if_neg e3]
                exact h1 i hi hin e2
        · rw [hpk, hg i, hg i0, if_neg (by omega), if_neg (by omega), if_neg (by omega), if_pos rfl]
          have := h1 i hi hin (by omega)
          rw [hpi] at this
          exact this
      · rename_i hl
        have hl : less (l.getD j d) (l.getD i0 d) = false := by simpa using hl
        intro i hi hin
        by_cases e : (i - 1) / 2 = i0
        · by_cases e1 : i = j
          · rw [e1, hpk]; exact hl
          · rw [e]
            exact htr _ _ _ hl (hmin i hi hin e e1)
        · exact h1 i hi hin e
    · rename_i h
      intro i hi hin
      exact h1 i hi hin (by omega)
omit has in
theorem heap_min {n : Nat} {l : List X} (h : Heap d less n l) (hrf : ∀ a, less a a = false) : ∀ i, i < n → less (l.getD i d) (l.getD 0 d) = false := by
  intro i
  induction i using Nat.strongRecOn with
  | _ i ih =>
    intro hi
    by_cases e : i = 0
    · subst e; exact hrf _
    · exact htr _ _ _ (ih ((i - 1) / 2) (by omega) (by omega)) (h i (by omega) hi)
theorem push_heap {l : List X} (x : X) (h : Heap d less l.length l) : Heap d less (pushL d less l x).length (pushL d less l x) := by
  unfold pushL
  rw [upL_len]
  have hget : ∀ i, i < l.length → (l ++ [x]).getD i d = l.getD i d := fun i hi => by simp [List.getD_eq_getElem?_getD, List.getElem?_append_left hi]
  refine up_heap d less htr has l.length _ rfl (by simp) (fun i hi hin hne => ?_) (fun i hi hin hp h0 => ?_)
  · simp at hin
    rw [hget i (by omega), hget _ (by omega)]
    exact h i hi (by omega)
  · simp at hin; omega
omit htr has in
theorem push_perm (l : List X) (x : X) : (pushL d less l x).Perm (l ++ [x]) := upL_perm d less _ (by simp)
theorem pop_ok {l : List X} (h : Heap d less l.length l) (h0 : 0 < l.length) : (popL d less l).length = l.length ∧ (popL d less l).getD (l.length - 1) d = l.getD 0 d ∧ Heap d less (l.length - 1) ((popL d less l).take (l.length - 1)) ∧ ((popL d less l).getD (l.length - 1) d :: (popL d less l).take (l.length - 1)).Perm l := by
  have hlen : (popL d less l).length = l.length := by rw [popL, downL_len, swp_len]
  have hg := fun m => swp_get d (l := l) (i := 0) (j := l.length - 1) h0 (by omega) m
  have hx : (popL d less l).getD (l.length - 1) d = l.getD 0 d := by
    rw [popL, downL_above d less 0 (l.length - 1) (by rw [swp_len]; omega) _ (Nat.le_refl _), hg, if_pos rfl]
  have hheap : Heap d less (l.length - 1) (popL d less l) := by
    refine down_heap d less htr has 0 _ (by rw [swp_len]; omega) (fun i hi hin hp => ?_) (fun i hi hin hp h00 => by omega)
    rw [hg i, hg ((i - 1) / 2), if_neg (by omega), if_neg (by omega), if_neg (by omega), if_neg hp]
    exact h i hi (by omega)
  refine ⟨hlen, hx, fun i hi hin => ?_, ?_⟩
  · have hget : ∀ i, i < l.length - 1 → ((popL d less l).take (l.length - 1)).getD i d = (popL d less l).getD i d := fun i hi => by
      simp [List.getD_eq_getElem?_getD, List.getElem?_take, hi]
    rw [hget i hin, hget _ (by omega)]
    exact hheap i hi hin
  · have hp : (popL d less l).Perm l := by
      unfold popL
      exact (downL_perm d less _ _ (by rw [swp_len]; omega)).trans (swp_perm d h0 (by omega))
    refine List.Perm.trans ?_ hp
    generalize popL d less l = r at *
    have e : r = r.take (l.length - 1) ++ [r.getD (l.length - 1) d] := by
      have h5 : r.drop (l.length - 1) = [r.getD (l.length - 1) d] := by
        rw [List.drop_eq_getElem_cons (by omega), List.drop_eq_nil_of_le (by omega)]
        simp [List.getD_eq_getElem?_getD, List.getElem?_eq_getElem (show l.length - 1 < r.length by omega)]
      rw [← h5, List.take_append_drop]
    conv => rhs; rw [e]
    exact (List.perm_append_comm (l₁ := [_]))
def drainL : Nat → List X → List X
  | 0, _ => []
  | k + 1, l => (popL d less l).getD (l.length - 1) d :: drainL k ((popL d less l).take (l.length - 1))
theorem drain_ok (hrf : ∀ a, less a a = false) : ∀ (k : Nat) {l : List X}, l.length = k → Heap d less l.length l → (drainL d less k l).Pairwise (fun a b => less b a = false) ∧ (drainL d less k l).Perm l
  | 0, l, h, _ => by
    have : l = [] := List.eq_nil_of_length_eq_zero h
    subst this
    exact ⟨List.Pairwise.nil, List.Perm.refl _⟩
  | k + 1, l, hk, h => by
    obtain ⟨h1, h2, h3, h4⟩ := pop_ok d less htr has h (by omega)
    have hl : ((popL d less l).take (l.length - 1)).length = k := by rw [List.length_take, h1]; omega
    obtain ⟨g1, g2⟩ := drain_ok hrf k hl (by rw [hl]; have : k = l.length - 1 := by omega
                                             rw [this]; exact h3)
    refine ⟨?_, ?_⟩
    · simp only [drainL]
      refine List.Pairwise.cons (fun b hb => ?_) g1
      have hb1 := g2.mem_iff.1 hb
      have hb2 : b ∈ l := h4.mem_iff.1 (List.mem_cons_of_mem _ hb1)
      obtain ⟨i, hi⟩ := List.mem_iff_getElem?.1 hb2
      have hil : i < l.length := (List.getElem?_eq_some_iff.1 hi).1
      have := heap_min d less htr h hrf i hil
      rw [h2]
      rwa [List.getD_eq_getElem?_getD, hi] at this
    · simp only [drainL]
      exact (List.Perm.cons _ g2).trans h4
theorem pushes_ok (xs : List X) : ∀ (l : List X), Heap d less l.length l → Heap d less (xs.foldl (pushL d less) l).length (xs.foldl (pushL d less) l) ∧ (xs.foldl (pushL d less) l).Perm (l ++ xs) := by
  induction xs with
  | nil => intro l h; exact ⟨h, by simp⟩
  | cons x xs ih =>
    intro l h
    obtain ⟨g1, g2⟩ := ih (pushL d less l x) (push_heap d less htr has x h)
    refine ⟨g1, g2.trans ?_⟩
    have := (push_perm d less l x).append_right xs
    simpa using this
theorem hsort_ok (hrf : ∀ a, less a a = false) (xs : List X) : (drainL d less xs.length (xs.foldl (pushL d less) [])).Pairwise (fun a b => less b a = false) ∧ (drainL d less xs.length (xs.foldl (pushL d less) [])).Perm xs := by
  obtain ⟨g1, g2⟩ := pushes_ok d less htr has xs [] (fun i hi hin => by simp at hin)
  have hl : (xs.foldl (pushL d less) []).length = xs.length := by simpa using g2.length_eq
  obtain ⟨h1, h2⟩ := drain_ok d less htr has hrf xs.length hl g1
  exact ⟨h1, h2.trans (by simpa using g2)⟩
end
end Go.Proofs.Ytkifajabiggfmaa
end
section
set_option linter.unusedSimpArgs false
set_option linter.unusedVariables false
namespace Go.Proofs.Ytkifajabiggfmaa
set_option linter.unusedSimpArgs false
set_option linter.unusedVariables false
open Go.Bx
set_option maxRecDepth 10000
def cmpI (a b : Int) : Int := if a < b then -1 else if b < a then 1 else 0
theorem sNaN (a : Int) : Ctr Try.prog 96 [.d (.int .i64 a)] [] (.d (.bool false)) [] [] := by
  refine ctr_pure Try.func96 ok96 rfl cc96 cr96 Try.ntmps96 (by simp) rfl rfl ?_; intro c hP hfn; simp only [kc96, vcb, ↓evSo_some, ↓reduceIte, reduceCtorEq, seval]
  exact RetK.pure (by simp only [rs96, rsb, vcb, ↓evSo_some, ↓reduceIte, reduceCtorEq, seval]) (by (simp only [rs96, rsb, vcb, ↓evSo_some, ↓reduceIte, reduceCtorEq, seval, enb, vcb, ↓evSo_some, ↓reduceIte, reduceCtorEq, seval]) <;> (first | simp))
theorem sCmpI (a b : Int) : Ctr Try.prog 95 [.d (.int .i64 a), .d (.int .i64 b)] [] (.d (.int .i64 (cmpI a b))) [] [] := by
  refine ctr_pure Try.func95 ok95 rfl cc95 cr95 Try.ntmps95 (by simp) rfl rfl ?_; intro c hP hfn; simp only [kc95, vcb, ↓evSo_some, ↓reduceIte, reduceCtorEq, seval]
  repeat' first
      | (first
          | refine TR.p hP (by first | exact sNaN a | exact sNaN b) (by repeat' first | exact trivial | (intro _; assumption) | apply And.intro) ?_
          | refine TR.gp hP rfl (fun _ => by first | exact sNaN a | exact sNaN b) (fun _ => by repeat' first | exact trivial | (intro _; assumption) | apply And.intro) ?_
          | refine TR.pv hP rfl (by first | exact sNaN a | exact sNaN b) trivial (by repeat' first | exact trivial | (intro _; assumption) | apply And.intro) ?_
         try simp only [vcb, ↓evSo_some, ↓reduceIte, reduceCtorEq, seval])
      | refine And.intro (fun h => ?_) (fun h => ?_)
      | refine And.intro (by first | omega | (simp only [maxLen, decide_eq_true_eq, decide_eq_false_iff_not] at *; omega)) ?_
      | (refine TR.aslO rfl rfl rfl rfl trivial (Nat.le_of_ble_eq_true rfl) ?_
         try simp only [vcb, ↓evSo_some, ↓reduceIte, reduceCtorEq, seval])
      | refine And.intro trivial ?_
      | refine And.intro rfl ?_
      | fail
  · have h' := of_decide_eq_true h
    exact RetK.pure (by simp only [rs95, rsb, vcb, ↓evSo_some, ↓reduceIte, reduceCtorEq, seval]) (by (simp only [rs95, rsb, vcb, ↓evSo_some, ↓reduceIte, reduceCtorEq, seval, enb, vcb, ↓evSo_some, ↓reduceIte, reduceCtorEq, seval]) <;> (first | simp [cmpI, h']))
  · have h' := of_decide_eq_true h
    have h2 : ¬ a < b := by omega
    exact RetK.pure (by simp only [rs95, rsb, vcb, ↓evSo_some, ↓reduceIte, reduceCtorEq, seval]) (by (simp only [rs95, rsb, vcb, ↓evSo_some, ↓reduceIte, reduceCtorEq, seval, enb, vcb, ↓evSo_some, ↓reduceIte, reduceCtorEq, seval]) <;> (first | simp only [cmpI, if_neg h2, if_pos h']))
  · rename_i h0
    have h' := of_decide_eq_false h
    have h2 := of_decide_eq_false h0
    exact RetK.pure (by simp only [rs95, rsb, vcb, ↓evSo_some, ↓reduceIte, reduceCtorEq, seval]) (by (simp only [rs95, rsb, vcb, ↓evSo_some, ↓reduceIte, reduceCtorEq, seval, enb, vcb, ↓evSo_some, ↓reduceIte, reduceCtorEq, seval]) <;> (first | simp only [cmpI, if_neg h2, if_neg h']))
theorem sOr (a b : Int) : Ctr Try.prog 94 [.d (slK .i64 [a, b])] [] (.d (.int .i64 (if a ≠ 0 then a else b))) [] [] := by
  refine ctr_pure Try.func94 ok94 rfl cc94 cr94 Try.ntmps94 (by simp) rfl rfl ?_; intro c hP hfn; simp only [kc94, vcb, ↓evSo_some, ↓reduceIte, reduceCtorEq, seval]
  refine vcC.loop (X := Nat) (fun k => ⟨[(3, .d (.int .i64 0)), (6, .d (slK .i64 [a, b])), (7, .d (.int .i64 2)), (8, .d (.int .i64 k))], [], []⟩)
    (fun k => k ≤ 2 ∧ ∀ j, j < k → ([a, b].getD j 0) = 0) (fun k => 2 - k) 0 ⟨Nat.zero_le _, fun j hj => absurd hj (Nat.not_lt_zero j)⟩ (Wk.of [] hfn rfl (by (simp only [enb, vcb, ↓evSo_some, ↓reduceIte, reduceCtorEq, seval]) <;> (first | exact wS (by omega) | (rw [List.length_append]; exact wS (by omega)) | assumption)) (by simp only [enb, vcb, ↓evSo_some, ↓reduceIte, reduceCtorEq, seval])) ?_
  rintro k ⟨hk, he⟩
  have hk3 : k = 0 ∨ k = 1 ∨ k = 2 := by omega
  have h2 : ([a, b] : List Int).length = 2 := rfl
  rcases hk3 with rfl | rfl | rfl
  · have h0 : ([a, b] : List Int).getD 0 0 = a := rfl
    simp only [Int.natCast_zero, h0, h2, vcb, ↓evSo_some, ↓reduceIte, reduceCtorEq, seval]
    repeat' first
        | refine And.intro (fun h => ?_) (fun h => ?_)
        | refine And.intro (by first | omega | (simp only [maxLen, decide_eq_true_eq, decide_eq_false_iff_not] at *; omega)) ?_
        | (refine TR.aslO rfl rfl rfl rfl trivial (Nat.le_of_ble_eq_true rfl) ?_
           try simp only [h0, h2, vcb, ↓evSo_some, ↓reduceIte, reduceCtorEq, seval])
        | refine And.intro trivial ?_
        | refine And.intro rfl ?_
        | fail
    · have h' : a ≠ 0 := by simpa using h
      exact RetK.pure (by simp only [rs94, rsb, vcb, ↓evSo_some, ↓reduceIte, reduceCtorEq, seval]) (by (simp only [rs94, rsb, vcb, ↓evSo_some, ↓reduceIte, reduceCtorEq, seval, enb, vcb, ↓evSo_some, ↓reduceIte, reduceCtorEq, seval]) <;> (first | rw [if_pos h']))
    · have h' : a = 0 := by simpa using h
      exact lopK.on 1 ⟨by decide, fun j hj => by have : j = 0 := by omega
                                                 subst this; exact h'⟩ (by decide) (Wk.of [] hfn rfl (by (simp only [enb, vcb, ↓evSo_some, ↓reduceIte, reduceCtorEq, seval]) <;> (first | exact wS (by omega) | (rw [List.length_append]; exact wS (by omega)) | assumption)) (by simp only [enb, vcb, ↓evSo_some, ↓reduceIte, reduceCtorEq, seval]))
  · have ha : a = 0 := he 0 (by decide)
    have h0 : ([a, b] : List Int).getD 1 0 = b := rfl
    have h1 : ((1 : Nat) : Int) = 1 := rfl
    simp only [h1, h0, h2, vcb, ↓evSo_some, ↓reduceIte, reduceCtorEq, seval]
    repeat' first
        | refine And.intro (fun h => ?_) (fun h => ?_)
        | refine And.intro (by first | omega | (simp only [maxLen, decide_eq_true_eq, decide_eq_false_iff_not] at *; omega)) ?_
        | (refine TR.aslO rfl rfl rfl rfl trivial (Nat.le_of_ble_eq_true rfl) ?_
           try simp only [h0, h2, vcb, ↓evSo_some, ↓reduceIte, reduceCtorEq, seval])
        | refine And.intro trivial ?_
        | refine And.intro rfl ?_
        | fail
    · exact RetK.pure (by simp only [rs94, rsb, vcb, ↓evSo_some, ↓reduceIte, reduceCtorEq, seval]) (by (simp only [rs94, rsb, vcb, ↓evSo_some, ↓reduceIte, reduceCtorEq, seval, enb, vcb, ↓evSo_some, ↓reduceIte, reduceCtorEq, seval]) <;> (first | rw [if_neg (by simp [ha])]))
    · have h' : b = 0 := by simpa using h
      exact lopK.on 2 ⟨by decide, fun j hj => by
        rcases (by omega : j = 0 ∨ j = 1) with rfl | rfl
        · exact ha
        · exact h'⟩ (by decide) (Wk.of [] hfn rfl (by (simp only [enb, vcb, ↓evSo_some, ↓reduceIte, reduceCtorEq, seval]) <;> (first | exact wS (by omega) | (rw [List.length_append]; exact wS (by omega)) | assumption)) (by simp only [enb, vcb, ↓evSo_some, ↓reduceIte, reduceCtorEq, seval]))
  · have ha : a = 0 := he 0 (by decide)
    have hb : b = 0 := he 1 (by decide)
    have h1 : ((2 : Nat) : Int) = 2 := rfl
    simp only [h1, h2, vcb, ↓evSo_some, ↓reduceIte, reduceCtorEq, seval]
    repeat' first
        | refine And.intro (fun h => ?_) (fun h => ?_)
        | refine And.intro (by first | omega | (simp only [maxLen, decide_eq_true_eq, decide_eq_false_iff_not] at *; omega)) ?_
        | (refine TR.aslO rfl rfl rfl rfl trivial (Nat.le_of_ble_eq_true rfl) ?_
           try simp only [h2, vcb, ↓evSo_some, ↓reduceIte, reduceCtorEq, seval])
        | refine And.intro trivial ?_
        | refine And.intro rfl ?_
        | fail
    all_goals exact RetK.pure (by simp only [rs94, rsb, vcb, ↓evSo_some, ↓reduceIte, reduceCtorEq, seval]) (by (simp only [rs94, rsb, vcb, ↓evSo_some, ↓reduceIte, reduceCtorEq, seval, enb, vcb, ↓evSo_some, ↓reduceIte, reduceCtorEq, seval]) <;> (first | rw [if_neg (by simp [ha]), hb]))
theorem sOr' {n : Nat} {full : Bool} {ds : List D} {a b : Int} (h : LitI .i64 ds [a, b]) (hn : n = 2) : Ctr Try.prog 94 [.d (.sl full 1 n (litRow 1 ds))] [] (.d (.int .i64 (if a ≠ 0 then a else b))) [] [] :=
  (sOr a b).arg ⟨h.vle hn, trivial⟩
def dayQ (L : List Ls) (k : Nat) : Int := (L.getD k default).day
def cmpQ (L : List Ls) (a b : Nat) : Int := if cmpI (dayQ L a) (dayQ L b) ≠ 0 then cmpI (dayQ L a) (dayQ L b) else cmpI a b
def lessQ (L : List Ls) (a b : Nat) : Bool := decide (cmpQ L a b < 0)
def rowQ (l : List Nat) : Own := .row 3 1 l.length (fun i => [.int .i64 (l.getD i 0 : Nat)])
theorem sLen (L : List Ls) (l : List Nat) : Ctr Try.prog 47 [.own 1 0] [(1, .fix [.d (slX L), .osl 2]), (2, rowQ l)] (.d (.int .i64 l.length)) [(1, .fix [.d (slX L), .osl 2]), (2, rowQ l)] [] := by
  refine ctr_own Try.func47 ok47 rfl cc47 cr47 Try.ntmps47 (by simp) rfl ?_
  intro c hP hfn
  simp only [kc47, namesL, V.names, ownNames, rowQ, slX, vcb, ↓evSo_some, ↓reduceIte, reduceCtorEq, seval]
  refine RetK.mk _ (Wk.refl _ _) (by simp only [rs47, rsb, vcb, ↓evSo_some, ↓reduceIte, reduceCtorEq, seval]) (by simp only [rs47, rsb, vcb, ↓evSo_some, ↓reduceIte, reduceCtorEq, seval, enb, vcb, ↓evSo_some, ↓reduceIte, reduceCtorEq, seval]) (by simp only [enb, vcb, ↓evSo_some, ↓reduceIte, reduceCtorEq, seval])
set_option maxHeartbeats 2000000 in
theorem sLess (L : List Ls) (l : List Nat) (hL : ∀ k, k ∈ l → k < L.length) (hLl : L.length ≤ 1000000) (i j : Nat) (hi : i < l.length) (hj : j < l.length) :
    Ctr Try.prog 90 [.own 1 0, .d (.int .i64 i), .d (.int .i64 j)] [(1, .fix [.d (slX L), .osl 2]), (2, rowQ l)] (.d (.bool (lessQ L (l.getD i 0) (l.getD j 0)))) [(1, .fix [.d (slX L), .osl 2]), (2, rowQ l)] [] := by
  refine ctr_own Try.func90 ok90 rfl cc90 cr90 Try.ntmps90 (by simp) rfl ?_
  intro c hP hfn
  have h1 : (0 : Int) ≤ (i : Int) ∧ (i : Int) < l.length := by omega
  have h2 : (0 : Int) ≤ (j : Int) ∧ (j : Int) < l.length := by omega
  have hg : ∀ m, m < l.length → l.getD m 0 < L.length := fun m hm => hL _ (by rw [List.getD_eq_getElem?_getD, List.getElem?_eq_getElem hm]; exact List.getElem_mem hm)
  generalize hA : l.getD i 0 = A at *
  generalize hB : l.getD j 0 = B at *
  have hA' : A < L.length := hA ▸ hg i hi
  have hB' : B < L.length := hB ▸ hg j hj
  have h3 : (0 : Int) ≤ (A : Int) ∧ (A : Int) < L.length := by omega
  have h4 : (0 : Int) ≤ (B : Int) ∧ (B : Int) < L.length := by omega
  have c1 := sCmpI (dayQ L A) (dayQ L B)
  have c2 := sCmpI (A : Int) (B : Int)
  have c3 := @sOr' 2 true [.int .i64 (cmpI (dayQ L A) (dayQ L B)), .int .i64 (cmpI (A : Int) (B : Int))] (cmpI (dayQ L A) (dayQ L B)) (cmpI (A : Int) (B : Int)) (by repeat constructor) rfl
  simp only [dayQ] at c1 c3
  simp only [kc90, namesL, V.names, ownNames, rowQ, slX, hA, hB, vcb, ↓evSo_some, ↓reduceIte, reduceCtorEq, seval]
  repeat' first
      | (first
          | refine TR.p hP (by first | exact c1 | exact c2 | exact c3) (by repeat' first | exact trivial | (intro _; assumption) | apply And.intro) ?_
          | refine TR.gp hP rfl (fun _ => by first | exact c1 | exact c2 | exact c3) (fun _ => by repeat' first | exact trivial | (intro _; assumption) | apply And.intro) ?_
          | refine TR.pv hP rfl (by first | exact c1 | exact c2 | exact c3) trivial (by repeat' first | exact trivial | (intro _; assumption) | apply And.intro) ?_
         try simp only [hA, hB, vcb, ↓evSo_some, ↓reduceIte, reduceCtorEq, seval])
      | refine And.intro (fun h => ?_) (fun h => ?_)
      | refine And.intro (by first | omega | (simp only [maxLen, decide_eq_true_eq, decide_eq_false_iff_not] at *; omega)) ?_
      | (refine TR.aslO rfl rfl rfl rfl trivial (Nat.le_of_ble_eq_true rfl) ?_
         try simp only [hA, hB, vcb, ↓evSo_some, ↓reduceIte, reduceCtorEq, seval])
      | refine And.intro trivial ?_
      | refine And.intro rfl ?_
      | fail
  refine RetK.mk _ (Wk.refl _ _) (by simp only [rs90, rsb, vcb, ↓evSo_some, ↓reduceIte, reduceCtorEq, seval]) (by simp only [rs90, rsb, vcb, ↓evSo_some, ↓reduceIte, reduceCtorEq, seval, enb, vcb, ↓evSo_some, ↓reduceIte, reduceCtorEq, seval, lessQ, cmpQ, dayQ]) (by simp only [enb, vcb, ↓evSo_some, ↓reduceIte, reduceCtorEq, seval])
set_option maxHeartbeats 1000000 in
theorem sSwap (L : List Ls) (l : List Nat) (i j : Nat) (hi : i < l.length) (hj : j < l.length) :
    Ctr Try.prog 93 [.own 1 0, .d (.int .i64 i), .d (.int .i64 j)] [(1, .fix [.d (slX L), .osl 2]), (2, rowQ l)] (.tup []) [(1, .fix [.d (slX L), .osl 2]), (2, rowQ (swp 0 l i j))] [] := by
  refine ctr_own Try.func93 ok93 rfl cc93 cr93 Try.ntmps93 (by simp) rfl ?_
  intro c hP hfn
  have h1 : (0 : Int) ≤ (i : Int) ∧ (i : Int) < l.length := by omega
  have h2 : (0 : Int) ≤ (j : Int) ∧ (j : Int) < l.length := by omega
  simp only [kc93, namesL, V.names, ownNames, rowQ, slX, vcb, ↓evSo_some, ↓reduceIte, reduceCtorEq, seval]
  repeat' first
      | refine And.intro (fun h => ?_) (fun h => ?_)
      | refine And.intro (by first | omega | (simp only [maxLen, decide_eq_true_eq, decide_eq_false_iff_not] at *; omega)) ?_
      | (refine TR.aslO rfl rfl rfl rfl trivial (Nat.le_of_ble_eq_true rfl) ?_
         try simp only [vcb, ↓evSo_some, ↓reduceIte, reduceCtorEq, seval])
      | refine And.intro trivial ?_
      | refine And.intro rfl ?_
      | fail
  refine RetK.mk' _ (Wk.refl _ _) (by simp only [rs93, rsb, vcb, ↓evSo_some, ↓reduceIte, reduceCtorEq, seval]) (by simp only [rs93, rsb, vcb, ↓evSo_some, ↓reduceIte, reduceCtorEq, seval, enb, vcb, ↓evSo_some, ↓reduceIte, reduceCtorEq, seval]) ?_
  simp only [enb, vcb, ↓evSo_some, ↓reduceIte, reduceCtorEq, seval]
  refine OLe.row (swp_len _ _ _ _).symm fun m hm => ?_
  rw [swp_get 0 hi hj m]
  by_cases e1 : m = j
  · subst e1; simp [putD]; try (split <;> simp_all [putD])
  · rw [if_neg e1, if_neg e1]
    by_cases e2 : m = i
    · subst e2; simp [putD]
    · rw [if_neg e2, if_neg e2]
set_option maxHeartbeats 1000000 in
theorem sPush (L : List Ls) (l : List Nat) (x : Nat) (hl : l.length ≤ 1000000) :
    Ctr Try.prog 92 [.own 1 0, .ifc 3 (.d (.int .i64 x))] [(1, .fix [.d (slX L), .osl 2]), (2, rowQ l)] (.tup []) [(1, .fix [.d (slX L), .osl 3]), (3, rowQ (l ++ [x]))] [3] := by
  refine ctr_own Try.func92 ok92 rfl cc92 cr92 Try.ntmps92 (by simp) rfl ?_
  intro c hP hfn
  have hb : (l.length + 1) * 8 ≤ 140737488355328 := by omega
  have hm : l.length + 1 ≤ maxLen := by simp only [maxLen]; omega
  simp only [kc92, namesL, V.names, ownNames, rowQ, slX, hb, hm, vcb, ↓evSo_some, ↓reduceIte, reduceCtorEq, seval]
  repeat' first
      | refine And.intro (fun h => ?_) (fun h => ?_)
      | refine And.intro (by first | omega | (simp only [maxLen, decide_eq_true_eq, decide_eq_false_iff_not] at *; omega)) ?_
      | (refine TR.aslO rfl rfl rfl rfl trivial (Nat.le_of_ble_eq_true rfl) ?_
         try simp only [vcb, ↓evSo_some, ↓reduceIte, reduceCtorEq, seval])
      | refine And.intro trivial ?_
      | refine And.intro rfl ?_
      | fail
  refine RetK.mk' _ (Wk.sw 12 3 _ hfn (by simp [namesL, V.names, ownNames, rowQ]) (by simp [namesL, V.names, ownNames, rowQ])) (by simp only [rs92, rsb, vcb, ↓evSo_some, ↓reduceIte, reduceCtorEq, seval]) (by simp only [rs92, rsb, vcb, ↓evSo_some, ↓reduceIte, reduceCtorEq, seval, enb, vcb, ↓evSo_some, ↓reduceIte, reduceCtorEq, seval]) ?_
  simp only [enb, vcb, ↓evSo_some, ↓reduceIte, reduceCtorEq, seval]
  refine OLe.app1 (fun p : Nat => [.int .i64 (p : Int)]) (fun i hi => by simp [hi]) (by simp [litRow])
set_option maxHeartbeats 1000000 in
theorem sPop (L : List Ls) (l : List Nat) (h0 : 0 < l.length) (hl : l.length ≤ 1000000) :
    Ctr Try.prog 91 [.own 1 0] [(1, .fix [.d (slX L), .osl 2]), (2, rowQ l)] (.ifc 3 (.d (.int .i64 (l.getD (l.length - 1) 0 : Nat)))) [(1, .fix [.d (slX L), .osl 3]), (3, rowQ (l.take (l.length - 1)))] [3] := by
  refine ctr_own Try.func91 ok91 rfl cc91 cr91 Try.ntmps91 (by simp) rfl ?_
  intro c hP hfn
  have e1 : IntKind.i64.wrap ((l.length : Int) - 1) = ((l.length - 1 : Nat) : Int) := by rw [wI (by omega)]; omega
  have h1 : (0 : Int) ≤ ((l.length - 1 : Nat) : Int) ∧ ((l.length - 1 : Nat) : Int) < l.length := by omega
  have h2 : ((l.length - 1 : Nat) : Int) ≤ (l.length : Int) := by omega
  simp only [kc91, namesL, V.names, ownNames, rowQ, slX, e1, vcb, ↓evSo_some, ↓reduceIte, reduceCtorEq, seval]
  repeat' first
      | refine And.intro (fun h => ?_) (fun h => ?_)
      | refine And.intro (by first | omega | (simp only [maxLen, decide_eq_true_eq, decide_eq_false_iff_not] at *; omega)) ?_
      | (refine TR.aslO rfl rfl rfl rfl trivial (Nat.le_of_ble_eq_true rfl) ?_
         try simp only [e1, vcb, ↓evSo_some, ↓reduceIte, reduceCtorEq, seval])
      | refine And.intro trivial ?_
      | refine And.intro rfl ?_
      | fail
  refine RetK.mk _ (Wk.shr 2 3 (l.length - 1) rfl (by omega) (by simp [namesL, V.names, ownNames, rowQ])) (by simp only [rs91, rsb, vcb, ↓evSo_some, ↓reduceIte, reduceCtorEq, seval]) (by simp only [rs91, rsb, vcb, ↓evSo_some, ↓reduceIte, reduceCtorEq, seval, enb, vcb, ↓evSo_some, ↓reduceIte, reduceCtorEq, seval]) ?_
  simp only [enb, vcb, ↓evSo_some, ↓reduceIte, reduceCtorEq, seval]
  refine OLe.row (by simp) fun i hi => ?_
  have hi2 : i < l.length := by omega
  simp [List.getD_eq_getElem?_getD, List.getElem?_take, hi, hi2]
theorem mLess : mth Try.prog 69 "Less" = some (90, true) := by kernel_rfl
theorem mSwap : mth Try.prog 69 "Swap" = some (93, true) := by kernel_rfl
theorem mLen : mth Try.prog 69 "Len" = some (47, true) := by kernel_rfl
theorem mPush : mth Try.prog 69 "Push" = some (92, true) := by kernel_rfl
theorem mPop : mth Try.prog 69 "Pop" = some (91, true) := by kernel_rfl
theorem uPl : Try.prog.underlying 69 = some (.pointer 71) := by kernel_rfl
def vH : V := .ifc 69 (.own 1 0)
theorem valid_ivK {c : Ctx} {st : St} {P : Program} (hP : c.P = P) {d : Option Nat} {name : String} {x : X} {t e : TypeId} {xv : V} {f : Nat} {xs : List X} {k1 k2 : Nat} {o1 o2 : Go.Bx.Own} {res : V} (hx : evV st x = .ifc t xv) (hm : mth P t name = some (f, true)) (ht : P.underlying t = some (.pointer e))
    (hS : Ctr P f (xv :: evVs st xs) [(k1, o1), (k2, o2)] res [(k1, o1), (k2, o2)] []) (hsx : evS true st x) (hs : evSs true st xs) (h1 : own? st.own k1 = some o1) (h2 : own? st.own k2 = some o2) (hne : k1 ≠ k2) : Valid c ⟨d, none, .ivk name x xs⟩ st { val := res, upd := [], rd := [k1, k2], new := [] } := by
  have hnd : (keysO [(k1, o1), (k2, o2)]).Nodup := by simp [keysO, hne]
  exact valid_keep (valid_iv hx (by rw [hP]; exact hm) (by rw [hP]; exact ht) (by rw [hP]; exact hS) hsx hs (hin2 h1 h2) hnd) (hin2 h1 h2) (fun k hk => hk) hnd
set_option maxHeartbeats 1000000 in
theorem sUp (L : List Ls) (hLl : L.length ≤ 1000000) (l : List Nat) (hL : ∀ k, k ∈ l → k < L.length) (j : Nat) (hj : j < l.length) (hl : l.length ≤ 1000000) :
    Ctr Try.prog 60 [vH, .d (.int .i64 j)] [(1, .fix [.d (slX L), .osl 2]), (2, rowQ l)] (.tup []) [(1, .fix [.d (slX L), .osl 2]), (2, rowQ (upL 0 (lessQ L) j l))] [] := by
  refine ctr_own Try.func60 ok60 rfl cc60 cr60 Try.ntmps60 (by simp [vH]) rfl ?_
  intro c hP hfn
  simp only [kc60, namesL, V.names, ownNames, vH, vcb, ↓evSo_some, ↓reduceIte, reduceCtorEq, seval]
  refine vcC.loop (X := Nat × List Nat) (fun x => ⟨[(0, vH), (1, .d (.int .i64 x.1))], [(1, .fix [.d (slX L), .osl 2]), (2, rowQ x.2)], [1, 2]⟩)
    (fun x => x.1 < x.2.length ∧ x.2.length = l.length ∧ (∀ k, k ∈ x.2 → k < L.length) ∧ upL 0 (lessQ L) j l = upL 0 (lessQ L) x.1 x.2) (fun x => x.1) (j, l) ⟨hj, rfl, hL, rfl⟩ (Wk.of _ hfn rfl (by simp only [vH, enb, vcb, ↓evSo_some, ↓reduceIte, reduceCtorEq, seval]) (by simp only [enb, vcb, ↓evSo_some, ↓reduceIte, reduceCtorEq, seval])) ?_
  rintro ⟨i, r⟩ ⟨hi, hr, HL, he⟩
  simp only at hi hr HL he
  have e1 : IntKind.i64.wrap ((i : Int) - 1) = (i : Int) - 1 := wI (by omega)
  have e2 : IntKind.i64.wrap (((i : Int) - 1).tdiv 2) = (((i - 1) / 2 : Nat) : Int) := by
    cases i with
    | zero => decide
    | succ n =>
      have : ((n + 1 : Nat) : Int) - 1 = (n : Int) := by omega
      rw [this, show (2 : Int) = ((2 : Nat) : Int) from rfl, tdiv_nat, Nat.add_sub_cancel, wI (by omega)]
  have hl2 : ¬ ((2 : Int) = 0) := by decide
  by_cases h0 : i = 0
  · have hu : upL 0 (lessQ L) i r = r := by rw [upL, dif_pos h0]
    have h1 : ((((i - 1) / 2 : Nat) : Int) == (i : Int)) = true := by rw [beq_iff_eq]; omega
    rw [hu] at he
    simp only [vH, e1, e2, h1, hl2, vcb, ↓evSo_some, ↓reduceIte, reduceCtorEq, seval]
    refine TR.gkeep (gc := false) [] (.d (.bool false)) rfl (fun h => by cases h) ?_
    simp only [vcb, ↓evSo_some, ↓reduceIte, reduceCtorEq, seval]
    refine RetK.mk' _ (Wk.refl _ _) (by simp only [rs60, rsb, vcb, ↓evSo_some, ↓reduceIte, reduceCtorEq, seval]) (by simp only [rs60, rsb, vcb, ↓evSo_some, ↓reduceIte, reduceCtorEq, seval, enb, vcb, ↓evSo_some, ↓reduceIte, reduceCtorEq, seval]) ?_
    simp only [he, enb, vcb, ↓evSo_some, ↓reduceIte, reduceCtorEq, seval]
  · have h1 : ((((i - 1) / 2 : Nat) : Int) == (i : Int)) = false := by
      rw [beq_eq_false_iff_ne]; omega
    simp only [vH, e1, e2, h1, hl2, vcb, ↓evSo_some, ↓reduceIte, reduceCtorEq, seval]
    refine TR.gkeep (gc := true) [1, 2] (.d (.bool ((lessQ L) (r.getD i 0) (r.getD ((i - 1) / 2) 0)))) rfl (fun _ => valid_ivK hP rfl mLess uPl (sLess L r HL hLl i ((i - 1) / 2) hi (by omega)) (fun _ => rfl) ⟨fun _ => rfl, fun _ => rfl, trivial⟩ rfl rfl (by decide)) ?_
    simp only [vcb, ↓evSo_some, ↓reduceIte, reduceCtorEq, seval]
    refine ⟨fun h => ?_, fun h => ?_⟩
    · have hu : upL 0 (lessQ L) i r = r := by rw [upL, dif_neg h0, if_neg (by simpa using h)]
      rw [hu] at he
      refine RetK.mk' _ (Wk.refl _ _) (by simp only [rs60, rsb, vcb, ↓evSo_some, ↓reduceIte, reduceCtorEq, seval]) (by simp only [rs60, rsb, vcb, ↓evSo_some, ↓reduceIte, reduceCtorEq, seval, enb, vcb, ↓evSo_some, ↓reduceIte, reduceCtorEq, seval]) ?_
      simp only [he, enb, vcb, ↓evSo_some, ↓reduceIte, reduceCtorEq, seval]
    · have hu : upL 0 (lessQ L) i r = upL 0 (lessQ L) ((i - 1) / 2) (swp 0 r ((i - 1) / 2) i) := by
        rw [upL, dif_neg h0, if_pos (by simpa using h)]
      rw [hu] at he
      refine TR.iv hP [(1, .fix [.d (slX L), .osl 2]), (2, rowQ r)] [(1, .fix [.d (slX L), .osl 2]), (2, rowQ (swp 0 r ((i - 1) / 2) i))] _ [] rfl mSwap uPl (sSwap L r ((i - 1) / 2) i (by omega) hi) trivial (by repeat' first | exact trivial | (intro _; assumption) | apply And.intro) (hin2 rfl rfl) (by simp [keysO]) (by simp) ?_
      simp only [vcb, ↓evSo_some, ↓reduceIte, reduceCtorEq, seval]
      exact lopK.on ((i - 1) / 2, swp 0 r ((i - 1) / 2) i) ⟨by rw [swp_len]; omega, by rw [swp_len]; exact hr, fun k hk => HL k ((swp_perm 0 (by omega) (by omega)).mem_iff.1 hk), he⟩ (by simp only; omega) (Wk.of _ hfn rfl (by simp only [vH, enb, vcb, ↓evSo_some, ↓reduceIte, reduceCtorEq, seval]) (by simp only [enb, vcb, ↓evSo_some, ↓reduceIte, reduceCtorEq, seval]))
set_option maxHeartbeats 2000000 in
theorem sHDn (L : List Ls) (hLl : L.length ≤ 1000000) (l : List Nat) (hL : ∀ k, k ∈ l → k < L.length) (i0 n : Nat) (hn : n ≤ l.length) (hl : l.length ≤ 1000000) (hi0 : i0 < l.length) :
    Ctr Try.prog 61 [vH, .d (.int .i64 i0), .d (.int .i64 n)] [(1, .fix [.d (slX L), .osl 2]), (2, rowQ l)] .un [(1, .fix [.d (slX L), .osl 2]), (2, rowQ (downL 0 (lessQ L) i0 n l))] [] := by
  refine ctr_own Try.func61 ok61 rfl cc61 cr61 Try.ntmps61 (by simp [vH]) rfl ?_
  intro c hP hfn
  simp only [kc61, namesL, V.names, ownNames, vH, vcb, ↓evSo_some, ↓reduceIte, reduceCtorEq, seval]
  refine vcC.loop (X := Nat × List Nat) (fun x => ⟨[(0, vH), (1, .d (.int .i64 i0)), (2, .d (.int .i64 n)), (7, .d (.int .i64 x.1))], [(1, .fix [.d (slX L), .osl 2]), (2, rowQ x.2)], [1, 2]⟩)
    (fun x => x.1 < x.2.length ∧ x.2.length = l.length ∧ (∀ k, k ∈ x.2 → k < L.length) ∧ downL 0 (lessQ L) i0 n l = downL 0 (lessQ L) x.1 n x.2) (fun x => l.length - x.1) (i0, l) ⟨hi0, rfl, hL, rfl⟩ (Wk.of _ hfn rfl (by simp only [vH, enb, vcb, ↓evSo_some, ↓reduceIte, reduceCtorEq, seval]) (by simp only [enb, vcb, ↓evSo_some, ↓reduceIte, reduceCtorEq, seval])) ?_
  rintro ⟨i, r⟩ ⟨hi, hr, HL, he⟩
  simp only at hi hr HL he
  have e1 : IntKind.i64.wrap (2 * (i : Int)) = 2 * (i : Int) := wI (by omega)
  have e2 : IntKind.i64.wrap (2 * (i : Int) + 1) = ((2 * i + 1 : Nat) : Int) := by rw [wI (by omega)]; omega
  have e3 : IntKind.i64.wrap (((2 * i + 1 : Nat) : Int) + 1) = ((2 * i + 2 : Nat) : Int) := by rw [wI (by omega)]; omega
  have hB : decide (((2 * i + 1 : Nat) : Int) < 0) = false := by rw [decide_eq_false_iff_not]; omega
  by_cases hlt : 2 * i + 1 < n
  · have hA : decide (((2 * i + 1 : Nat) : Int) ≥ (n : Int)) = false := by rw [decide_eq_false_iff_not]; omega
    by_cases h2 : 2 * i + 2 < n
    · have hC : decide (((2 * i + 2 : Nat) : Int) < (n : Int)) = true := by rw [decide_eq_true_eq]; omega
      simp only [vH, e1, e2, e3, hA, hB, hC, vcb, ↓evSo_some, ↓reduceIte, reduceCtorEq, seval]
      refine TR.gkeep (gc := true) [1, 2] (.d (.bool ((lessQ L) (r.getD (2 * i + 2) 0) (r.getD (2 * i + 1) 0)))) rfl (fun _ => valid_ivK hP rfl mLess uPl (sLess L r HL hLl (2 * i + 2) (2 * i + 1) (by omega) (by omega)) (fun _ => rfl) ⟨fun _ => rfl, fun _ => rfl, trivial⟩ rfl rfl (by decide)) ?_
      simp only [vcb, ↓evSo_some, ↓reduceIte, reduceCtorEq, seval]
      refine ⟨fun h => ?_, fun h => ?_⟩
      · have hk : kidL 0 (lessQ L) i n r = 2 * i + 2 := by rw [kidL, if_pos ⟨h2, h⟩]
        refine TR.keep [1, 2] (.d (.bool ((lessQ L) (r.getD (2 * i + 2) 0) (r.getD i 0)))) (valid_ivK hP rfl mLess uPl (sLess L r HL hLl (2 * i + 2) i (by omega) (by omega)) trivial (by repeat' first | exact trivial | (intro _; assumption) | apply And.intro) rfl rfl (by decide)) ?_
        simp only [vcb, ↓evSo_some, ↓reduceIte, reduceCtorEq, seval]
        refine ⟨fun h => ?_, fun h => ?_⟩
        · have hu : downL 0 (lessQ L) i n r = r := by rw [downL, dif_pos hlt, hk, if_neg (by simpa using h)]
          rw [hu] at he
          refine RetK.mk _ (Wk.refl _ _) (by simp only [rs61, rsb, vcb, ↓evSo_some, ↓reduceIte, reduceCtorEq, seval]) (VLe.un _) ?_
          simp only [he, enb, vcb, ↓evSo_some, ↓reduceIte, reduceCtorEq, seval]
        · have hu : downL 0 (lessQ L) i n r = downL 0 (lessQ L) (2 * i + 2) n (swp 0 r i (2 * i + 2)) := by
            rw [downL, dif_pos hlt, hk, if_pos (by simpa using h)]
          rw [hu] at he
          refine TR.iv hP [(1, .fix [.d (slX L), .osl 2]), (2, rowQ r)] [(1, .fix [.d (slX L), .osl 2]), (2, rowQ (swp 0 r i (2 * i + 2)))] _ [] rfl mSwap uPl (sSwap L r i (2 * i + 2) (by omega) (by omega)) trivial (by repeat' first | exact trivial | (intro _; assumption) | apply And.intro) (hin2 rfl rfl) (by simp [keysO]) (by simp) ?_
          simp only [vcb, ↓evSo_some, ↓reduceIte, reduceCtorEq, seval]
          exact lopK.on (2 * i + 2, swp 0 r i (2 * i + 2)) ⟨by rw [swp_len]; omega, by rw [swp_len]; exact hr, fun k hk => HL k ((swp_perm 0 (by omega) (by omega)).mem_iff.1 hk), he⟩ (by simp only; omega) (Wk.of _ hfn rfl (by simp only [vH, enb, vcb, ↓evSo_some, ↓reduceIte, reduceCtorEq, seval]) (by simp only [enb, vcb, ↓evSo_some, ↓reduceIte, reduceCtorEq, seval]))
      · have hk : kidL 0 (lessQ L) i n r = 2 * i + 1 := by rw [kidL, if_neg (fun g => by rw [h] at g; exact absurd g.2 (by simp))]
        refine TR.keep [1, 2] (.d (.bool ((lessQ L) (r.getD (2 * i + 1) 0) (r.getD i 0)))) (valid_ivK hP rfl mLess uPl (sLess L r HL hLl (2 * i + 1) i (by omega) (by omega)) trivial (by repeat' first | exact trivial | (intro _; assumption) | apply And.intro) rfl rfl (by decide)) ?_
        simp only [vcb, ↓evSo_some, ↓reduceIte, reduceCtorEq, seval]
        refine ⟨fun h => ?_, fun h => ?_⟩
        · have hu : downL 0 (lessQ L) i n r = r := by rw [downL, dif_pos hlt, hk, if_neg (by simpa using h)]
          rw [hu] at he
          refine RetK.mk _ (Wk.refl _ _) (by simp only [rs61, rsb, vcb, ↓evSo_some, ↓reduceIte, reduceCtorEq, seval]) (VLe.un _) ?_
          simp only [he, enb, vcb, ↓evSo_some, ↓reduceIte, reduceCtorEq, seval]
        · have hu : downL 0 (lessQ L) i n r = downL 0 (lessQ L) (2 * i + 1) n (swp 0 r i (2 * i + 1)) := by
            rw [downL, dif_pos hlt, hk, if_pos (by simpa using h)]
          rw [hu] at he
          refine TR.iv hP [(1, .fix [.d (slX L), .osl 2]), (2, rowQ r)] [(1, .fix [.d (slX L), .osl 2]), (2, rowQ (swp 0 r i (2 * i + 1)))] _ [] rfl mSwap uPl (sSwap L r i (2 * i + 1) (by omega) (by omega)) trivial (by repeat' first | exact trivial | (intro _; assumption) | apply And.intro) (hin2 rfl rfl) (by simp [keysO]) (by simp) ?_
          simp only [vcb, ↓evSo_some, ↓reduceIte, reduceCtorEq, seval]
          exact lopK.on (2 * i + 1, swp 0 r i (2 * i + 1)) ⟨by rw [swp_len]; omega, by rw [swp_len]; exact hr, fun k hk => HL k ((swp_perm 0 (by omega) (by omega)).mem_iff.1 hk), he⟩ (by simp only; omega) (Wk.of _ hfn rfl (by simp only [vH, enb, vcb, ↓evSo_some, ↓reduceIte, reduceCtorEq, seval]) (by simp only [enb, vcb, ↓evSo_some, ↓reduceIte, reduceCtorEq, seval]))
    · have hC : decide (((2 * i + 2 : Nat) : Int) < (n : Int)) = false := by rw [decide_eq_false_iff_not]; omega
      have hk : kidL 0 (lessQ L) i n r = 2 * i + 1 := by rw [kidL, if_neg (fun g => h2 g.1)]
      simp only [vH, e1, e2, e3, hA, hB, hC, vcb, ↓evSo_some, ↓reduceIte, reduceCtorEq, seval]
      refine TR.gkeep (gc := false) [] (.d (.bool false)) rfl (fun h => by cases h) ?_
      simp only [vcb, ↓evSo_some, ↓reduceIte, reduceCtorEq, seval]
      refine TR.keep [1, 2] (.d (.bool ((lessQ L) (r.getD (2 * i + 1) 0) (r.getD i 0)))) (valid_ivK hP rfl mLess uPl (sLess L r HL hLl (2 * i + 1) i (by omega) (by omega)) trivial (by repeat' first | exact trivial | (intro _; assumption) | apply And.intro) rfl rfl (by decide)) ?_
      simp only [vcb, ↓evSo_some, ↓reduceIte, reduceCtorEq, seval]
      refine ⟨fun h => ?_, fun h => ?_⟩
      · have hu : downL 0 (lessQ L) i n r = r := by rw [downL, dif_pos hlt, hk, if_neg (by simpa using h)]
        rw [hu] at he
        refine RetK.mk _ (Wk.refl _ _) (by simp only [rs61, rsb, vcb, ↓evSo_some, ↓reduceIte, reduceCtorEq, seval]) (VLe.un _) ?_
        simp only [he, enb, vcb, ↓evSo_some, ↓reduceIte, reduceCtorEq, seval]
      · have hu : downL 0 (lessQ L) i n r = downL 0 (lessQ L) (2 * i + 1) n (swp 0 r i (2 * i + 1)) := by
          rw [downL, dif_pos hlt, hk, if_pos (by simpa using h)]
        rw [hu] at he
        refine TR.iv hP [(1, .fix [.d (slX L), .osl 2]), (2, rowQ r)] [(1, .fix [.d (slX L), .osl 2]), (2, rowQ (swp 0 r i (2 * i + 1)))] _ [] rfl mSwap uPl (sSwap L r i (2 * i + 1) (by omega) (by omega)) trivial (by repeat' first | exact trivial | (intro _; assumption) | apply And.intro) (hin2 rfl rfl) (by simp [keysO]) (by simp) ?_
        simp only [vcb, ↓evSo_some, ↓reduceIte, reduceCtorEq, seval]
        exact lopK.on (2 * i + 1, swp 0 r i (2 * i + 1)) ⟨by rw [swp_len]; omega, by rw [swp_len]; exact hr, fun k hk => HL k ((swp_perm 0 (by omega) (by omega)).mem_iff.1 hk), he⟩ (by simp only; omega) (Wk.of _ hfn rfl (by simp only [vH, enb, vcb, ↓evSo_some, ↓reduceIte, reduceCtorEq, seval]) (by simp only [enb, vcb, ↓evSo_some, ↓reduceIte, reduceCtorEq, seval]))
  · have hA : decide (((2 * i + 1 : Nat) : Int) ≥ (n : Int)) = true := by rw [decide_eq_true_eq]; omega
    have hu : downL 0 (lessQ L) i n r = r := by rw [downL, dif_neg hlt]
    rw [hu] at he
    simp only [vH, e1, e2, e3, hA, hB, vcb, ↓evSo_some, ↓reduceIte, reduceCtorEq, seval]
    refine RetK.mk _ (Wk.refl _ _) (by simp only [rs61, rsb, vcb, ↓evSo_some, ↓reduceIte, reduceCtorEq, seval]) (VLe.un _) ?_
    simp only [he, enb, vcb, ↓evSo_some, ↓reduceIte, reduceCtorEq, seval]
theorem sLen3 (L : List Ls) (l : List Nat) : Ctr Try.prog 47 [.own 1 0] [(1, .fix [.d (slX L), .osl 3]), (3, rowQ l)] (.d (.int .i64 l.length)) [(1, .fix [.d (slX L), .osl 3]), (3, rowQ l)] [] := by
  have := (sLen L l).sw 2 3
  simpa only [rowQ, slX, vcb, ↓evSo_some, ↓reduceIte, reduceCtorEq, seval] using this
theorem sUp3 (L : List Ls) (hLl : L.length ≤ 1000000) (l : List Nat) (hL : ∀ k, k ∈ l → k < L.length) (j : Nat) (hj : j < l.length) (hl : l.length ≤ 1000000) :
    Ctr Try.prog 60 [vH, .d (.int .i64 j)] [(1, .fix [.d (slX L), .osl 3]), (3, rowQ l)] (.tup []) [(1, .fix [.d (slX L), .osl 3]), (3, rowQ (upL 0 (lessQ L) j l))] [] := by
  have := (sUp L hLl l hL j hj hl).sw 2 3
  simpa only [rowQ, vH, slX, vcb, ↓evSo_some, ↓reduceIte, reduceCtorEq, seval] using this
set_option maxHeartbeats 1000000 in
theorem sHPush (L : List Ls) (hLl : L.length ≤ 1000000) (l : List Nat) (hL : ∀ k, k ∈ l → k < L.length) (x : Nat) (hx : x < L.length) (hl : l.length ≤ 100000) :
    Ctr Try.prog 46 [vH, .ifc 3 (.d (.int .i64 x))] [(1, .fix [.d (slX L), .osl 2]), (2, rowQ l)] (.tup []) [(1, .fix [.d (slX L), .osl 3]), (3, rowQ (pushL 0 (lessQ L) l x))] [3] := by
  refine ctr_own Try.func46 ok46 rfl cc46 cr46 Try.ntmps46 (by simp [vH]) rfl ?_
  intro c hP hfn
  have e1 : IntKind.i64.wrap (((l ++ [x]).length : Int) - 1) = (l.length : Int) := by rw [wI (by simp; omega)]; simp
  simp only [kc46, namesL, V.names, ownNames, vH, vcb, ↓evSo_some, ↓reduceIte, reduceCtorEq, seval]
  refine TR.iv hP [(1, .fix [.d (slX L), .osl 2]), (2, rowQ l)] [(1, .fix [.d (slX L), .osl 3]), (3, rowQ (l ++ [x]))] _ [3] rfl mPush uPl (sPush L l x (by omega)) trivial (by repeat' first | exact trivial | (intro _; assumption) | apply And.intro) (hin2 rfl rfl) (by simp [keysO]) (by simp [rowQ, ownNames]) ?_
  simp only [vcb, ↓evSo_some, ↓reduceIte, reduceCtorEq, seval]
  refine TR.keep [1, 3] (.d (.int .i64 (l ++ [x]).length)) (valid_ivK hP rfl mLen uPl (sLen3 L (l ++ [x])) trivial (by repeat' first | exact trivial | (intro _; assumption) | apply And.intro) rfl rfl (by decide)) ?_
  simp only [e1, vcb, ↓evSo_some, ↓reduceIte, reduceCtorEq, seval]
  refine TR.call [(1, .fix [.d (slX L), .osl 3]), (3, rowQ (l ++ [x]))] [(1, .fix [.d (slX L), .osl 3]), (3, rowQ (upL 0 (lessQ L) l.length (l ++ [x])))] _ [] (by rw [hP]; exact sUp3 L hLl (l ++ [x]) (fun k hk => by rcases List.mem_append.1 hk with h | h; exact hL k h; simp at h; omega) l.length (by simp) (by simp; omega)) (by repeat' first | exact trivial | (intro _; assumption) | apply And.intro) (hin2 rfl rfl) (by simp [keysO]) (by simp) ?_
  simp only [vcb, ↓evSo_some, ↓reduceIte, reduceCtorEq, seval]
  refine RetK.mk' _ (Wk.refl _ _) (by simp only [rs46, rsb, vcb, ↓evSo_some, ↓reduceIte, reduceCtorEq, seval]) (by simp only [rs46, rsb, vcb, ↓evSo_some, ↓reduceIte, reduceCtorEq, seval, enb, vcb, ↓evSo_some, ↓reduceIte, reduceCtorEq, seval]) ?_
  simp only [pushL, enb, vcb, ↓evSo_some, ↓reduceIte, reduceCtorEq, seval]
set_option maxHeartbeats 1000000 in
theorem sHPop (L : List Ls) (hLl : L.length ≤ 1000000) (l : List Nat) (hL : ∀ k, k ∈ l → k < L.length) (h0 : 0 < l.length) (hl : l.length ≤ 100000) :
    Ctr Try.prog 48 [vH] [(1, .fix [.d (slX L), .osl 2]), (2, rowQ l)] (.ifc 3 (.d (.int .i64 ((popL 0 (lessQ L) l).getD (l.length - 1) 0 : Nat)))) [(1, .fix [.d (slX L), .osl 3]), (3, rowQ ((popL 0 (lessQ L) l).take (l.length - 1)))] [3] := by
  refine ctr_own Try.func48 ok48 rfl cc48 cr48 Try.ntmps48 (by simp [vH]) rfl ?_
  intro c hP hfn
  have e1 : IntKind.i64.wrap ((l.length : Int) - 1) = ((l.length - 1 : Nat) : Int) := by rw [wI (by omega)]; omega
  have hpl : (popL 0 (lessQ L) l).length = l.length := by rw [popL, downL_len, swp_len]
  have cS := sSwap L l 0 (l.length - 1) h0 (by omega)
  have cD := sHDn L hLl (swp 0 l 0 (l.length - 1)) (fun k hk => hL k ((swp_perm 0 (by omega) (by omega)).mem_iff.1 hk)) 0 (l.length - 1) (by rw [swp_len]; omega) (by rw [swp_len]; omega) (by rw [swp_len]; omega)
  have cP := sPop L (popL 0 (lessQ L) l) (by omega) (by omega)
  rw [hpl] at cP
  simp only [vH] at cD
  simp only [Int.natCast_zero] at cS cD
  simp only [kc48, namesL, V.names, ownNames, vH, vcb, ↓evSo_some, ↓reduceIte, reduceCtorEq, seval]
  refine TR.keep [1, 2] (.d (.int .i64 l.length)) (valid_ivK hP rfl mLen uPl (sLen L l) trivial (by repeat' first | exact trivial | (intro _; assumption) | apply And.intro) rfl rfl (by decide)) ?_
  simp only [e1, vcb, ↓evSo_some, ↓reduceIte, reduceCtorEq, seval]
  refine TR.iv hP [(1, .fix [.d (slX L), .osl 2]), (2, rowQ l)] [(1, .fix [.d (slX L), .osl 2]), (2, rowQ (swp 0 l 0 (l.length - 1)))] _ [] rfl mSwap uPl cS trivial (by repeat' first | exact trivial | (intro _; assumption) | apply And.intro) (hin2 rfl rfl) (by simp [keysO]) (by simp) ?_
  simp only [vcb, ↓evSo_some, ↓reduceIte, reduceCtorEq, seval]
  refine TR.call [(1, .fix [.d (slX L), .osl 2]), (2, rowQ (swp 0 l 0 (l.length - 1)))] [(1, .fix [.d (slX L), .osl 2]), (2, rowQ (popL 0 (lessQ L) l))] _ [] (by rw [hP]; exact cD) (by repeat' first | exact trivial | (intro _; assumption) | apply And.intro) (hin2 rfl rfl) (by simp [keysO]) (by simp) ?_
  simp only [vcb, ↓evSo_some, ↓reduceIte, reduceCtorEq, seval]
  refine TR.iv hP [(1, .fix [.d (slX L), .osl 2]), (2, rowQ (popL 0 (lessQ L) l))] [(1, .fix [.d (slX L), .osl 3]), (3, rowQ ((popL 0 (lessQ L) l).take (l.length - 1)))] _ [3] rfl mPop uPl cP trivial (by repeat' first | exact trivial | (intro _; assumption) | apply And.intro) (hin2 rfl rfl) (by simp [keysO]) (by simp [rowQ, ownNames]) ?_
  simp only [vcb, ↓evSo_some, ↓reduceIte, reduceCtorEq, seval]
  refine RetK.mk _ (Wk.refl _ _) (by simp only [rs48, rsb, vcb, ↓evSo_some, ↓reduceIte, reduceCtorEq, seval]) (by simp only [rs48, rsb, vcb, ↓evSo_some, ↓reduceIte, reduceCtorEq, seval, enb, vcb, ↓evSo_some, ↓reduceIte, reduceCtorEq, seval]) ?_
  simp only [enb, vcb, ↓evSo_some, ↓reduceIte, reduceCtorEq, seval]
end Go.Proofs.Ytkifajabiggfmaa
end
section
set_option linter.unusedSimpArgs false
set_option linter.unusedVariables false
namespace Go.Proofs.Ytkifajabiggfmaa
set_option linter.unusedSimpArgs false
set_option linter.unusedVariables false
open Go.Bx
set_option maxRecDepth 10000
def heapQ (L : List Ls) : List Nat := (List.range L.length).foldl (pushL 0 (lessQ L)) []
def ordQ (L : List Ls) : List Nat := drainL 0 (lessQ L) L.length (heapQ L)
theorem lessQ_iff (L : List Ls) (a b : Nat) : lessQ L a b = true ↔ dayQ L a < dayQ L b ∨ (dayQ L a = dayQ L b ∧ a < b) := by
  have hc : ∀ x y : Int, (x < y ∧ cmpI x y = -1) ∨ (x = y ∧ cmpI x y = 0) ∨ (y < x ∧ cmpI x y = 1) := fun x y => by
    unfold cmpI
    rcases Int.lt_trichotomy x y with h | h | h
    · exact .inl ⟨h, if_pos h⟩
    · exact .inr (.inl ⟨h, by rw [if_neg (by omega), if_neg (by omega)]⟩)
    · exact .inr (.inr ⟨h, by rw [if_neg (by omega), if_pos h]⟩)
  unfold lessQ cmpQ
  rcases hc (dayQ L a) (dayQ L b) with ⟨h1, h2⟩ | ⟨h1, h2⟩ | ⟨h1, h2⟩
  · rw [h2]; simp [h1]
  · rw [h2]
    rcases hc a b with ⟨g1, g2⟩ | ⟨g1, g2⟩ | ⟨g1, g2⟩ <;> rw [g2] <;> simp [h1] <;> omega
  · rw [h2]; simp; omega
theorem lessQ_false (L : List Ls) (a b : Nat) : lessQ L a b = false ↔ ¬ (dayQ L a < dayQ L b ∨ (dayQ L a = dayQ L b ∧ a < b)) := by
  rw [← lessQ_iff]; simp
theorem ordQ_ok (L : List Ls) : (ordQ L).Pairwise (fun a b => lessQ L b a = false) ∧ (ordQ L).Perm (List.range L.length) := by
  have := hsort_ok 0 (lessQ L) (fun a b c h1 h2 => by rw [lessQ_false] at *; omega) (fun a b h => by rw [lessQ_iff] at h; rw [lessQ_false]; omega) (fun a => by rw [lessQ_false]; omega) (List.range L.length)
  rw [List.length_range] at this
  exact this
theorem ordQ_len (L : List Ls) : (ordQ L).length = L.length := by have := (ordQ_ok L).2.length_eq; simpa using this
theorem ordQ_lt {L : List Ls} {k : Nat} (hk : k < L.length) : (ordQ L).getD k 0 < L.length := by
  have hk' : k < (ordQ L).length := by rw [ordQ_len]; exact hk
  rw [List.getD_eq_getElem?_getD, List.getElem?_eq_getElem hk', Option.getD_some]
  exact List.mem_range.1 ((ordQ_ok L).2.mem_iff.1 (List.getElem_mem hk'))
theorem sByDays (L : List Ls) : Ctr Try.prog 26 [.d (slX L)] [] (.fn (.func 45) [] [.mem [slX L]]) [] [] := by
  refine ctr_pure Try.func26 ok26 rfl cc26 cr26 Try.ntmps26 (by simp) rfl rfl ?_; intro c hP hfn; simp only [kc26, slX, vcb, ↓evSo_some, ↓reduceIte, reduceCtorEq, seval]
  exact RetK.mk _ (Wk.pubF 1 rfl rfl) (by simp only [rs26, rsb, vcb, ↓evSo_some, ↓reduceIte, reduceCtorEq, seval]) (by simp only [rs26, rsb, vcb, ↓evSo_some, ↓reduceIte, reduceCtorEq, seval, enb, vcb, ↓evSo_some, ↓reduceIte, reduceCtorEq, seval]) trivial
def qArgs (L : List Ls) (k : Nat) : List V := [.d (.int .i64 ((ordQ L).getD k 0 : Nat))]
theorem sPush7 (L : List Ls) (hLl : L.length ≤ 1000000) (l : List Nat) (hL : ∀ k, k ∈ l → k < L.length) (x : Nat) (hx : x < L.length) (hl : l.length ≤ 100000) :
    Ctr Try.prog 46 [.ifc 69 (.own 7 0), .ifc 3 (.d (.int .i64 x))] [(7, .fix [.d (slX L), .osl 900]), (900, rowQ l)] (.tup []) [(7, .fix [.d (slX L), .osl 901]), (901, rowQ (pushL 0 (lessQ L) l x))] [901] := by
  have := (((sHPush L hLl l hL x hx hl).sw 1 7).sw 2 900).sw 3 901
  simpa only [rowQ, vH, slX, vcb, ↓evSo_some, ↓reduceIte, reduceCtorEq, seval] using this
theorem sPop7 (L : List Ls) (hLl : L.length ≤ 1000000) (l : List Nat) (hL : ∀ k, k ∈ l → k < L.length) (h0 : 0 < l.length) (hl : l.length ≤ 100000) :
    Ctr Try.prog 48 [.ifc 69 (.own 7 0)] [(7, .fix [.d (slX L), .osl 900]), (900, rowQ l)] (.ifc 3 (.d (.int .i64 ((popL 0 (lessQ L) l).getD (l.length - 1) 0 : Nat)))) [(7, .fix [.d (slX L), .osl 901]), (901, rowQ ((popL 0 (lessQ L) l).take (l.length - 1)))] [901] := by
  have := (((sHPop L hLl l hL h0 hl).sw 1 7).sw 2 900).sw 3 901
  simpa only [rowQ, vH, slX, vcb, ↓evSo_some, ↓reduceIte, reduceCtorEq, seval] using this
theorem sLen7 (L : List Ls) (l : List Nat) : Ctr Try.prog 47 [.own 7 0] [(7, .fix [.d (slX L), .osl 900]), (900, rowQ l)] (.d (.int .i64 l.length)) [(7, .fix [.d (slX L), .osl 900]), (900, rowQ l)] [] := by
  have := ((sLen L l).sw 1 7).sw 2 900
  simpa only [rowQ, slX, vcb, ↓evSo_some, ↓reduceIte, reduceCtorEq, seval] using this
def heapP (L : List Ls) (k : Nat) : List Nat := (List.range k).foldl (pushL 0 (lessQ L)) []
theorem heapP_succ (L : List Ls) (k : Nat) : heapP L (k + 1) = pushL 0 (lessQ L) (heapP L k) k := by rw [heapP, List.range_succ, List.foldl_append]; rfl
theorem pushL_len {X : Type} (d : X) (less : X → X → Bool) (l : List X) (x : X) : (pushL d less l x).length = l.length + 1 := by rw [pushL, upL_len]; simp
theorem heapP_len (L : List Ls) : ∀ k, (heapP L k).length = k
  | 0 => rfl
  | k + 1 => by rw [heapP_succ, pushL_len, heapP_len L k]
theorem heapP_mem (L : List Ls) : ∀ k x, x ∈ heapP L k → x < k
  | 0, x, h => by simp [heapP] at h
  | k + 1, x, h => by
    rw [heapP_succ] at h
    have := (push_perm 0 (lessQ L) (heapP L k) k).mem_iff.1 h
    rcases List.mem_append.1 this with h | h
    · have := heapP_mem L k x h; omega
    · simp at h; omega
theorem popL_mem {less : Nat → Nat → Bool} {r : List Nat} (h0 : 0 < r.length) {x : Nat} (h : x ∈ (popL 0 less r).take (r.length - 1)) : x ∈ r := by
  have h1 := List.mem_of_mem_take h
  rw [popL] at h1
  have h2 := (downL_perm 0 less 0 (r.length - 1) (l := swp 0 r 0 (r.length - 1)) (by rw [swp_len]; omega)).mem_iff.1 h1
  exact (swp_perm 0 (by omega) (by omega)).mem_iff.1 h2
theorem it_byDays (L : List Ls) (hL : L.length ≤ 150) : IterC Try.prog 45 [.mem [slX L]] (qArgs L) L.length := by
  refine iter_of_vc Try.func45 ok45 rfl cc45 cr45 (by simp only [Try.ntmps45, List.length_cons, List.length_nil]; decide) rfl (fun _ => rfl) ?_
  intro c l T stop Z hP _ hZ hT hT' hY
  have hM : ∀ k n, n < 1000000 → (n ∈ List.map (fun x : Nat × Go.Bx.Own => x.fst) (Z k)) = False := fun k n hn => eq_false fun h => by have := hZ.ge k n h; omega
  have hge : ∀ k n o, (n, o) ∈ Z k → 1000000 ≤ n ∧ own? (Z k) n = some o := fun k n o hm => ⟨hZ.ge k n (mem_keys hm), mem_own? (hZ.nodup k) hm⟩
  simp only [kc45, slX, hM 0 7 (by decide), own?_setO, vcb, ↓evSo_some, ↓reduceIte, reduceCtorEq, seval]
  refine vcC.loop (X := Nat) (fun k => ⟨[(0, .fn (.yield l) [] []), (3, .own 7 0), (9, .d (.int .i64 L.length)), (10, .d (.int .i64 k))], [(7, .fix [.d (slX L), .osl 900]), (900, rowQ (heapP L k))] ++ Z 0, [7, 900] ++ keysO (Z 0)⟩)
    (fun k => k ≤ L.length) (fun k => L.length - k) 0 (Nat.zero_le _)
    ((Wk.row0F 7 1 900 3 1 (fun _ => []) (cs := [.d (slX L), .d (.sl true 0 0 fun _ => [])]) (by rw [own?_setO, if_pos rfl]; rfl) rfl (by simp [hM 0 900 (by decide)])).trans
      (Wk.ofZ hZ rfl 0 (own := [(7, .fix [.d (slX L), .osl 900]), (900, rowQ (heapP L 0))]) (nm := [7, 900]) rfl rfl (by simp only [slX, enb, vcb, ↓evSo_some, ↓reduceIte, reduceCtorEq, seval]) (by simp only [own?_setO, rowQ, slX, enb, vcb, ↓evSo_some, ↓reduceIte, reduceCtorEq, seval]; exact OLe.row rfl (fun i hi => absurd hi (Nat.not_lt_zero i)))
        (fun n o hm => by obtain ⟨h1, h2⟩ := hge 0 n o hm; rw [own?_setO, if_neg (by omega), own?_setO, if_neg (by omega), own?_setO, if_neg (by omega)]; exact h2))) ?_
  intro k hk
  simp only [rowQ, slX, vcb, ↓evSo_some, ↓reduceIte, reduceCtorEq, seval]
  have fixE : ∀ m : Nat, (Go.Bx.Own.fix [.d (slX L), .osl m]).ren (Go.Bx.sw 901 900) = .fix [.d (slX L), .osl (Go.Bx.sw 901 900 m)] := fun m => by simp [Go.Bx.Own.ren, renL, V.ren]
  refine ⟨fun h1 => ?_, fun h1 => ?_⟩
  · have hlt : k < L.length := by have := of_decide_eq_true h1; omega
    have cc := sPush7 L (by omega) (heapP L k) (fun x hx => by have := heapP_mem L k x hx; omega) k hlt (by rw [heapP_len]; omega)
    rw [← heapP_succ] at cc
    refine TR.call [(7, .fix [.d (slX L), .osl 900]), (900, rowQ (heapP L k))] [(7, .fix [.d (slX L), .osl 901]), (901, rowQ (heapP L (k + 1)))] _ [901] (by rw [hP]; exact cc) (by repeat' first | exact trivial | (intro _; assumption) | apply And.intro) (hin2 rfl rfl) (by simp [keysO]) (fun n hn => by rcases List.mem_singleton.1 hn with rfl; simp only [List.mem_cons, hM 0 _ (by decide : (901 : Nat) < 1000000), or_false]; decide) ?_
    simp only [vcb, ↓evSo_some, ↓reduceIte, reduceCtorEq, seval]
    refine lopK.on (k + 1) hlt (by omega) (Wk.rnZ hZ rfl 0 901 900 (by decide) (by decide) (own := [(7, .fix [.d (slX L), .osl 900]), (900, rowQ (heapP L (k + 1)))]) (nm := [7, 900]) rfl rfl ?_ ?_ ?_)
    · simp only [slX, enb, vcb, ↓evSo_some, ↓reduceIte, reduceCtorEq, seval]; exact wS (by omega)
    · simp only [OwnLeS, own?_setO, rowQ, slX, enb, vcb, ↓evSo_some, ↓reduceIte, reduceCtorEq, seval]
    · intro n o hm; obtain ⟨h1, h2⟩ := hge 0 n o hm; simp only [applyU, callU, List.map_cons, List.map_nil, List.cons_append, List.nil_append, delO, if_true]; rw [own?_setO, if_neg (by omega), own?_setO, if_neg (by omega)]; exact h2
  · have hkl : k = L.length := by have := of_decide_eq_false h1; omega
    subst hkl
    refine vcC.loop (X := Nat × List Nat) (fun x => ⟨[(0, .fn (.yield l) [] []), (3, .own 7 0)], [(7, .fix [.d (slX L), .osl 900]), (900, rowQ x.2)] ++ Z x.1, [7, 900] ++ keysO (Z x.1)⟩)
      (fun x => x.1 ≤ L.length ∧ x.2.length = L.length - x.1 ∧ (∀ y, y ∈ x.2 → y < L.length) ∧ drainL 0 (lessQ L) (L.length - x.1) x.2 = (ordQ L).drop x.1 ∧ x.1 ≤ T ∧ (stop = true → x.1 < T)) (fun x => L.length - x.1) (0, heapP L L.length)
      ⟨Nat.zero_le _, heapP_len L _, heapP_mem L _, rfl, Nat.zero_le _, fun h => (hT' h).1⟩
      (Wk.ofZ hZ rfl 0 (own := [(7, .fix [.d (slX L), .osl 900]), (900, rowQ (heapP L L.length))]) (nm := [7, 900]) rfl rfl (by simp only [slX, enb, vcb, ↓evSo_some, ↓reduceIte, reduceCtorEq, seval]) (by simp only [rowQ, slX, enb, vcb, ↓evSo_some, ↓reduceIte, reduceCtorEq, seval]) (fun n o hm => by obtain ⟨h1, h2⟩ := hge 0 n o hm; simp only [own?]; rw [if_neg (by omega), if_neg (by omega)]; exact h2)) ?_
    rintro ⟨k, r⟩ ⟨hk, hr, hm, hd, hkT, hks⟩
    simp only at hk hr hm hd hkT hks
    simp only [rowQ, slX, vcb, ↓evSo_some, ↓reduceIte, reduceCtorEq, seval]
    have hin := hin2 (own := [(7, Go.Bx.Own.fix [.d (slX L), .osl 900]), (900, rowQ r)] ++ Z k) (k1 := 7) (k2 := 900) rfl rfl
    refine TR.keep [7, 900] (.d (.int .i64 r.length)) (valid_keep (valid_call (by rw [hP]; exact sLen7 L r) (by repeat' first | exact trivial | (intro _; assumption) | apply And.intro) hin (by simp [keysO])) hin (fun k hk => hk) (by simp [keysO])) ?_
    simp only [vcb, ↓evSo_some, ↓reduceIte, reduceCtorEq, seval]
    refine ⟨fun h1 => ?_, fun h1 => ?_⟩
    · have h0 : 0 < r.length := by have := of_decide_eq_true h1; omega
      obtain ⟨m, hm1⟩ : ∃ m, L.length - k = m + 1 := ⟨L.length - k - 1, by omega⟩
      rw [hm1, drainL] at hd
      have hkl : k < L.length := by omega
      obtain ⟨y, hdy, hgy, -, -⟩ := drop_at (l := ordQ L) (k := k) (by
        have := congrArg List.length hd
        simp at this; omega)
      rw [hdy] at hd
      injection hd with hd1 hd2
      have hlt : k < T := by
        cases hst : stop with
        | true => exact hks hst
        | false => rw [hT hst]; exact hkl
      have cc := sPop7 L (by omega) r hm h0 (by omega)
      rw [hd1] at cc
      have hyv : (ordQ L).getD k 0 = y := hgy 0
      refine TR.call [(7, .fix [.d (slX L), .osl 900]), (900, rowQ r)] [(7, .fix [.d (slX L), .osl 901]), (901, rowQ ((popL 0 (lessQ L) r).take (r.length - 1)))] _ [901] (by rw [hP]; exact cc) (by repeat' first | exact trivial | (intro _; assumption) | apply And.intro) hin (by simp [keysO]) (fun n hn => by rcases List.mem_singleton.1 hn with rfl; simp only [List.mem_cons, hM k _ (by decide : (901 : Nat) < 1000000), or_false]; decide) ?_
      simp only [vcb, ↓evSo_some, ↓reduceIte, reduceCtorEq, seval]
      refine TR.wk _ (Wk.rnZ hZ rfl k 901 900 (by decide) (by decide) (env := [(22, .fn (.yield l) [] []), (26, .d (.int .i64 (y : Int))), (0, .fn (.yield l) [] []), (3, .own 7 0)]) (own := [(7, .fix [.d (slX L), .osl 900]), (900, rowQ ((popL 0 (lessQ L) r).take (r.length - 1)))]) (nm := [7, 900]) rfl rfl ?_ ?_ ?_) ?_
      · simp only [slX, enb, vcb, ↓evSo_some, ↓reduceIte, reduceCtorEq, seval]
      · simp only [OwnLeS, own?_setO, rowQ, slX, enb, vcb, ↓evSo_some, ↓reduceIte, reduceCtorEq, seval]
      · intro n o hm; obtain ⟨h1, h2⟩ := hge k n o hm; simp only [applyU, callU, List.map_cons, List.map_nil, List.cons_append, List.nil_append, delO, if_true]; rw [own?_setO, if_neg (by omega), own?_setO, if_neg (by omega)]; exact h2
      · refine TR.yield hZ rfl (hY k hlt) (own := [(7, .fix [.d (slX L), .osl 900]), (900, rowQ ((popL 0 (lessQ L) r).take (r.length - 1)))]) (nm := [7, 900]) rfl rfl rfl trivial (by simp only [qArgs, hyv, vcb, ↓evSo_some, ↓reduceIte, reduceCtorEq, seval]) (by simp only [vcb, ↓evSo_some, ↓reduceIte, reduceCtorEq, seval]) ?_
        simp only [vcb, ↓evSo_some, ↓reduceIte, reduceCtorEq, seval]
        have hZo : ∀ (j : Nat) (a b : Go.Bx.Own), OwnLe ((7, a) :: (900, b) :: Z j) (Z j) := fun j a b => OwnLe.of fun n o hm => by
          obtain ⟨h1, h2⟩ := hge j n o hm
          refine ⟨o, ?_, OLe.refl o⟩
          simp only [own?]; rw [if_neg (by omega), if_neg (by omega)]; exact h2
        refine ⟨fun hg => ?_, fun hg => ?_⟩
        · have hT1 : T = k + 1 := by
            simp [goAt] at hg
            have := hks hg.2
            omega
          subst hT1
          exact IterK.mk _ (Wk.refl _ _) (hZo _ _ _)
        · have hg' : k + 1 < T ∨ stop = false := by
            simp [goAt] at hg
            by_cases h9 : k + 1 < T
            · exact .inl h9
            · exact .inr (hg (by omega))
          have hlen : ((popL 0 (lessQ L) r).take (r.length - 1)).length = r.length - 1 := by
            rw [List.length_take, popL, downL_len, swp_len]; omega
          refine lopK.on (k + 1, (popL 0 (lessQ L) r).take (r.length - 1)) ⟨hkl, by rw [hlen]; simp only; omega, fun x hx => hm x (popL_mem h0 hx), ?_, hlt, fun h => hg'.resolve_right (by rw [h]; simp)⟩ (by simp only; omega) (Wk.ofZ hZ rfl (k + 1) (own := [(7, .fix [.d (slX L), .osl 900]), (900, rowQ ((popL 0 (lessQ L) r).take (r.length - 1)))]) (nm := [7, 900]) rfl rfl (by simp only [slX, enb, vcb, ↓evSo_some, ↓reduceIte, reduceCtorEq, seval]) (by simp only [rowQ, slX, enb, vcb, ↓evSo_some, ↓reduceIte, reduceCtorEq, seval]) (fun n o hm => by obtain ⟨h1, h2⟩ := hge (k + 1) n o hm; simp only [own?]; rw [if_neg (by omega), if_neg (by omega)]; exact h2))
          simp only
          rw [show L.length - (k + 1) = m by omega]
          exact hd2
    · have h0 : r.length = 0 := by have := of_decide_eq_false h1; omega
      have hkl : k = L.length := by omega
      have hst : stop = false := by
        cases hst : stop with
        | false => rfl
        | true => have := hks hst; have := (hT' hst).2; omega
      have hTk : T = k := by rw [hT hst, hkl]
      subst hTk
      refine IterK.mk' _ (Wk.refl _ _) (OwnLe.of fun n o hm => ?_)
      obtain ⟨h1, h2⟩ := hge T n o hm
      refine ⟨o, ?_, OLe.refl o⟩
      simp only [own?]; rw [if_neg (by omega), if_neg (by omega)]; exact h2
end Go.Proofs.Ytkifajabiggfmaa
end
