import Derived.Test.YtkifajabiggfmaaXG9
section
set_option linter.unusedSimpArgs false
set_option linter.unusedVariables false
namespace Go.Proofs.Ytkifajabiggfmaa
set_option linter.unusedSimpArgs false
set_option linter.unusedVariables false
open Go.Bx
set_option maxRecDepth 10000
structure GrS where
  G : List (List Int)
  op : Int
def grStep (L : List Ls) (days : Int) (y : Nat) (s : GrS) : GrS :=
  if s.G.length = 0 ∨ max 1 days ≤ IntKind.i64.wrap (dayQ L y - s.op) then ⟨s.G ++ [[(y : Int)]], dayQ L y⟩
  else ⟨s.G.set (s.G.length - 1) (s.G.getD (s.G.length - 1) [] ++ [(y : Int)]), s.op⟩
def grRun (L : List Ls) (days : Int) : Nat → GrS
  | 0 => ⟨[], 0⟩
  | k + 1 => grStep L days ((ordQ L).getD k 0) (grRun L days k)
def groupT (L : List Ls) (days : Int) : List (List Int) := (grRun L days L.length).G
structure GrI (k : Nat) (s : GrS) : Prop where
  len : s.G.length ≤ k
  each : ∀ g, g ∈ s.G → 1 ≤ g.length ∧ g.length ≤ k
theorem GrI.step {L : List Ls} {days : Int} {k : Nat} {s : GrS} (h : GrI k s) (y : Nat) : GrI (k + 1) (grStep L days y s) := by
  unfold grStep
  split
  · refine ⟨by simp; have := h.len; omega, fun g hg => ?_⟩
    rcases List.mem_append.1 hg with h1 | h1
    · have := h.each g h1; omega
    · simp at h1; subst h1; simp
  · rename_i hc
    have hlt : s.G.length - 1 < s.G.length := by omega
    refine ⟨by simp; have := h.len; omega, fun g hg => ?_⟩
    rcases List.mem_or_eq_of_mem_set hg with h1 | h1
    · have := h.each g h1; omega
    · subst h1
      have h2 := h.each _ (List.getElem_mem hlt)
      rw [List.getD_eq_getElem?_getD, List.getElem?_eq_getElem hlt, List.length_append, List.length_singleton, Option.getD_some]
      omega
theorem grRun_ok (L : List Ls) (days : Int) : ∀ k, GrI k (grRun L days k)
  | 0 => ⟨Nat.le_refl _, fun g hg => by simp [grRun] at hg⟩
  | k + 1 => (grRun_ok L days k).step _
def grO (L : List Ls) (days : Int) (s : GrS) : List (Nat × Go.Bx.Own) :=
  (1000, .lit 32 1 s.G.length (nestC 0 cI 5000 1 1 0 s.G)) :: ([(2, .fix [.d (slX L)]), (3, .fix [.d (.int .i64 days)]), (5, .fix [.osl 1000]), (6, .fix [.d (.int .i64 s.op)])] ++ nestO 0 cI 5000 1 3 1 0 s.G)
def grE (L : List Ls) : List (Nat × V) := [(2, .own 2 0), (3, .own 3 0), (5, .own 5 0), (6, .own 6 0), (10, .fn (.func 45) [] [.mem [slX L]])]
def grE1 (y : Nat) : List (Nat × V) := [(7, .d (.int .i64 (y : Int))), (2, .own 2 0), (3, .own 3 0), (5, .own 5 0), (6, .own 6 0)]
theorem gr_keys (L : List Ls) (days : Int) (s : GrS) : keysO (grO L days s) = 1000 :: 2 :: 3 :: 5 :: 6 :: keysO (nestO 0 cI 5000 1 3 1 0 s.G) := by simp [grO, keysO]
theorem gr_cli (L : List Ls) (days : Int) (S : Nat → GrS) : CliO [2, 3, 5, 6] (fun k => grO L days (S k)) := by
  refine ⟨fun k => ?_, fun k n hn => ?_, fun k n hn => ?_⟩
  · have hk : ∀ n, n ∈ keysO (nestO 0 cI 5000 1 3 1 0 (S k).G) → 5000 ≤ n := fun n h => (nestO_key h).1
    rw [gr_keys]
    simp only [List.nodup_cons, List.mem_cons, not_or]
    refine ⟨⟨by decide, by decide, by decide, by decide, fun h => ?_⟩, ⟨by decide, by decide, by decide, fun h => ?_⟩, ⟨by decide, by decide, fun h => ?_⟩, ⟨by decide, fun h => ?_⟩, fun h => ?_, nestO_nodup⟩ <;> have := hk _ h <;> omega
  · simp only [gr_keys, List.mem_cons]
    simp only [grO, ownNames, namesL, V.names, List.cons_append, List.nil_append, List.mem_cons, List.mem_append] at hn
    rcases hn with h | h | h | h | h | h | h | h
    · exact .inl h
    · exact .inr (.inr (.inr (.inr (.inr (nest_names h)))))
    · exact .inr (.inl h)
    · exact .inr (.inr (.inl h))
    · exact .inr (.inr (.inr (.inl h)))
    · exact .inl h
    · exact .inr (.inr (.inr (.inr (.inl h))))
    · exact .inr (.inr (.inr (.inr (.inr (nest_own h)))))
  · simp only [gr_keys, List.mem_cons]
    simp only [List.mem_cons, List.not_mem_nil, or_false] at hn
    rcases hn with h | h | h | h
    · exact .inr (.inl h)
    · exact .inr (.inr (.inl h))
    · exact .inr (.inr (.inr (.inl h)))
    · exact .inr (.inr (.inr (.inr (.inl h))))
theorem Wk.gr {c : Ctx} {st : St} {L : List Ls} {days : Int} {s : GrS} (x y : Nat) (hx : x ∉ [2, 3, 5, 6]) (hy : y ∉ [2, 3, 5, 6]) (hfn : c.fn = [2, 3, 5, 6])
    (hA : OwnLeS (Go.Bx.sw x y) st.own [(2, .fix [.d (slX L)]), (3, .fix [.d (.int .i64 days)]), (5, .fix [.osl 1000]), (6, .fix [.d (.int .i64 s.op)])])
    (hl : ∃ o', own? st.own (Go.Bx.sw x y 1000) = some o' ∧ OLe (o'.ren (Go.Bx.sw x y)) (.lit 32 1 s.G.length (nestC 0 cI 5000 1 1 0 s.G)))
    (hi : ∀ i g, s.G[i]? = some g → 1 < g.length → ∃ o', own? st.own (Go.Bx.sw x y (5000 + i)) = some o' ∧ OLe (o'.ren (Go.Bx.sw x y)) (.row 3 1 g.length (fun j => cI (g.getD j 0)))) : Wk c st ⟨[], grO L days s, keysO (grO L days s)⟩ :=
  (Wk.nest (dx := 0) (cells := cI) (K := 5000) (K' := 1000) (τ := 1) (e' := 32) (e := 3) (sz := 1) (G := s.G) x y [2, 3, 5, 6] hfn hx hy (env := []) (A := [(2, .fix [.d (slX L)]), (3, .fix [.d (.int .i64 days)]), (5, .fix [.osl 1000]), (6, .fix [.d (.int .i64 s.op)])]) (N := [1000, 2, 3, 5, 6]) rfl rfl trivial hA hl hi).trans
    (Wk.nmK ((gr_cli L days (fun _ => s)).nodup 0) ((gr_cli L days (fun _ => s)).names 0) (fun n hn => (gr_cli L days (fun _ => s)).fx 0 n (hfn ▸ hn)))
set_option maxHeartbeats 4000000 in
theorem sGroup (L : List Ls) (days : Int) (hL : L.length ≤ 150) : Ctr Try.prog 13 [.d (slX L), .d (.int .i64 days)] [] (.d (.sl false 1 (groupT L days).length (nestD 0 cI 1 (groupT L days)))) [] [] := by
  refine ctr_pureL Try.func13 ok13 rfl cc13 cr13 Try.ntmps13 (by simp) rfl rfl ?_; intro c hP hfn hrd; simp only [kc13, slX, vcb, ↓evSo_some, ↓reduceIte, reduceCtorEq, seval]
  have cb := sByDays L
  simp only [slX] at cb
  repeat' first
      | (first
          | refine TR.p hP (by first | exact cb) (by repeat' first | exact trivial | (intro _; assumption) | apply And.intro) ?_
          | refine TR.gp hP rfl (fun _ => by first | exact cb) (fun _ => by repeat' first | exact trivial | (intro _; assumption) | apply And.intro) ?_
          | refine TR.pv hP rfl (by first | exact cb) trivial (by repeat' first | exact trivial | (intro _; assumption) | apply And.intro) ?_
         try simp only [vcb, ↓evSo_some, ↓reduceIte, reduceCtorEq, seval])
      | refine And.intro (fun h => ?_) (fun h => ?_)
      | refine And.intro (by first | omega | (simp only [maxLen, decide_eq_true_eq, decide_eq_false_iff_not] at *; omega)) ?_
      | (refine TR.aslO rfl rfl rfl rfl trivial (Nat.le_of_ble_eq_true rfl) ?_
         try simp only [vcb, ↓evSo_some, ↓reduceIte, reduceCtorEq, seval])
      | refine And.intro trivial ?_
      | refine And.intro rfl ?_
      | fail
  have hI := it_byDays L hL
  rw [← hP] at hI
  refine vcC.rfnAll hI (grE L) [2, 3, 5, 6] (fun k => grO L days (grRun L days k)) (fun k => grO L days (grRun L days k)) (fun k => grE1 ((ordQ L).getD k 0)) ?_ rfl trivial ⟨hrd, gr_cli L days _, gr_cli L days _, fun n hn => (by rw [hfn] at hn; cases hn), fun s n hn => ?_, rfl, fun _ => rfl, fun _ => rfl, fun _ => rfl, fun h => absurd rfl h, fun h => (by cases h)⟩ ?_ ?_ ?_
  · refine (Wk.row0F 5 0 1000 32 1 (fun _ => []) rfl rfl (by simp)).trans (Wk.of (b := ⟨grE L, grO L days ⟨[], 0⟩, [1000, 2, 3, 5, 6]⟩) _ hfn rfl ?_ ?_)
    · simp only [grE, slX, enb, vcb, ↓evSo_some, ↓reduceIte, reduceCtorEq, seval]
    · simp only [grO, slX, nestC, nestO, enb, vcb, ↓evSo_some, ↓reduceIte, reduceCtorEq, seval]; exact OLe.rowLit rfl
  · have : ∀ (l : List (Nat × V)), (∀ s y, (s, y) ∈ l → ∀ n, n ∈ y.names → n ∈ [2, 3, 5, 6]) → n ∈ (Go.Bx.get l s).names → n ∈ [2, 3, 5, 6] := by
      intro l
      induction l with
      | nil => intro _ h; simp [Go.Bx.get, V.names] at h
      | cons p l ih =>
        obtain ⟨s', y⟩ := p
        intro hl h
        simp only [Go.Bx.get] at h
        split at h
        · exact hl s' y (by simp) n h
        · exact ih (fun s y hm => hl s y (by simp [hm])) h
    refine this (grE L) (fun s y hm n hn => ?_) hn
    simp only [grE, List.mem_cons, Prod.mk.injEq, List.not_mem_nil, or_false] at hm
    rcases hm with ⟨rfl, rfl⟩ | ⟨rfl, rfl⟩ | ⟨rfl, rfl⟩ | ⟨rfl, rfl⟩ | ⟨rfl, rfl⟩ <;> simp [V.names, namesL] at hn ⊢ <;> simp [hn]
  · intro k hk cB hPB hfB
    simp only [setPs, qArgs, vcb, ↓evSo_some, ↓reduceIte, reduceCtorEq, seval]
    exact Wk.envLe (by simp only [grE, grE1, slX, enb, vcb, ↓evSo_some, ↓reduceIte, reduceCtorEq, seval])
  · intro k hk cB hPB hfB
    have hstep : grRun L days (k + 1) = grStep L days ((ordQ L).getD k 0) (grRun L days k) := rfl
    have hy := ordQ_lt hk
    have hGI := grRun_ok L days k
    simp only [hstep]
    generalize grRun L days k = s at *
    generalize (ordQ L).getD k 0 = y at *
    clear hstep
    have hK : ∀ n, n < 5000 → (n ∈ List.map (fun x : Nat × Go.Bx.Own => x.fst) (nestO 0 cI 5000 1 3 1 0 s.G)) = False := fun n hn => eq_false fun h => by have := (nestO_key h).1; omega
    have hl2 := hGI.len
    have hb1 : (0 : Int) ≤ (y : Int) ∧ (y : Int) < L.length := by omega
    have hfin0 := @Wk.gr cB
    by_cases hn0 : s.G.length = 0 ∨ max 1 days ≤ IntKind.i64.wrap (dayQ L y - s.op)
    · 
      have hes : grStep L days y s = ⟨s.G ++ [[(y : Int)]], dayQ L y⟩ := by rw [grStep, if_pos hn0]
      rw [hes]
      have hc : (((s.G.length : Int) == 0) || decide (IntKind.i64.wrap ((L.getD y default).day - s.op) ≥ max 1 days)) = true := by
        rw [Bool.or_eq_true, beq_iff_eq, decide_eq_true_eq]
        rcases hn0 with h | h
        · exact .inl (by omega)
        · exact .inr h
      have hwk : ∀ st : St, OwnLeS (Go.Bx.sw 37 1000) st.own [(2, .fix [.d (slX L)]), (3, .fix [.d (.int .i64 days)]), (5, .fix [.osl 1000]), (6, .fix [.d (.int .i64 (dayQ L y))])] →
          (∃ v, own? st.own 37 = some (.lit 32 1 (s.G.length + 1) (nestC 0 cI 5000 1 1 0 s.G ++ [.d v])) ∧ VLe (.d v) (.d (.sl true 1 1 (fun j => cI ([(y : Int)].getD j 0))))) → (∀ j g, s.G[j]? = some g → 1 < g.length → own? st.own (5000 + j) = some (.row 3 1 g.length (fun j => cI (g.getD j 0)))) →
          Wk cB st ⟨[], grO L days ⟨s.G ++ [[(y : Int)]], dayQ L y⟩, keysO (grO L days ⟨s.G ++ [[(y : Int)]], dayQ L y⟩)⟩ := by
        rintro st q1 ⟨v, q2, q3⟩ q4
        refine Wk.gr 37 1000 (by decide) (by decide) hfB q1 ⟨_, by rw [show Go.Bx.sw 37 1000 1000 = 37 by decide]; exact q2, ?_⟩ (fun j g hg1 hg2 => ?_)
        · have hp := nest_ren (dx := (0 : Int)) (cells := cI) (K := 5000) (τ := 1) (sz := 1) (i := 0) (G := s.G) (show 37 < 5000 by decide) (show 1000 < 5000 by decide)
          simp only [Own.ren, renL_app, hp, nestC_app, List.length_append, List.length_singleton, nestC, renL, V.ren, Nat.le_refl, if_true]
          exact OLe.lits (VsLe.snoc q3 _)
        · have hj : s.G[j]? = some g := by
            by_cases e : j < s.G.length
            · rwa [List.getElem?_append_left e] at hg1
            · rw [List.getElem?_append_right (by omega)] at hg1
              have : j - s.G.length = 0 := by
                by_cases e0 : j - s.G.length = 0
                · exact e0
                · rw [List.getElem?_eq_none (by simp; omega)] at hg1; cases hg1
              rw [this] at hg1
              simp at hg1; subst hg1; simp at hg2
          refine ⟨_, by rw [show Go.Bx.sw 37 1000 (5000 + j) = 5000 + j by unfold Go.Bx.sw; rw [if_neg (by omega), if_neg (by omega)]]; exact q4 j g hj hg2, OLe.refl _⟩
      simp only [grO, grE1, slX, hK 35 (by decide), hK 36 (by decide), hK 37 (by decide), hc, own?_setO, own?_nestD, vcb, ↓evSo_some, ↓reduceIte, reduceCtorEq, seval]
      refine ⟨fun _ => hb1, rfl, hb1, ⟨by omega, by simp only [maxLen]; omega⟩, rfl, hwk _ ?_ ⟨_, by simp only [own?_setO, own?_nestD, own?_delSet, own?_delSet2, ne_lo, ne_hi, enb, vcb, ↓evSo_some, ↓reduceIte, reduceCtorEq, seval]; rfl, ?_⟩ fun j g hj hg2 => ?_⟩
      · simp only [OwnLeS, slX, dayQ, own?_setO, own?_nestD, own?_delSet, own?_delSet2, ne_lo, ne_hi, enb, vcb, ↓evSo_some, ↓reduceIte, reduceCtorEq, seval]
      · refine VLe.sl rfl (fun _ => rfl) id (fun q hq => ?_)
        have : q = 0 := by omega
        subst this; simp [cI, litRow]
      · simp only [own?_setO, own?_nestD, own?_delSet, own?_delSet2, ne_lo, ne_hi, nest_at hj hg2, enb, vcb, ↓evSo_some, ↓reduceIte, reduceCtorEq, seval]
    · 
      obtain ⟨i, hi⟩ : ∃ i, s.G.length = i + 1 := ⟨s.G.length - 1, by omega⟩
      have hil : i < s.G.length := by omega
      have ew : IntKind.i64.wrap ((s.G.length : Int) - 1) = (i : Int) := by rw [wI (by omega)]; omega
      have hgi : s.G[i]? = some s.G[i] := List.getElem?_eq_getElem hil
      have hgd : s.G.getD (s.G.length - 1) [] = s.G[i] := by rw [show s.G.length - 1 = i by omega, List.getD_eq_getElem?_getD, hgi]; rfl
      have hge := hGI.each _ (List.getElem_mem hil)
      have hes : grStep L days y s = ⟨s.G.set i (s.G[i] ++ [(y : Int)]), s.op⟩ := by
        rw [grStep, if_neg hn0, hgd, show s.G.length - 1 = i by omega]
      rw [hes]
      have hc : (((s.G.length : Int) == 0) || decide (IntKind.i64.wrap ((L.getD y default).day - s.op) ≥ max 1 days)) = false := by
        rw [Bool.or_eq_false_iff, beq_eq_false_iff_ne, decide_eq_false_iff_not]
        exact ⟨by omega, fun h => hn0 (.inr h)⟩
      clear hes hgd
      generalize s.G[i] = g at *
      have hnth := nestC_nth (dx := (0 : Int)) (cells := cI) (K := 5000) (τ := 1) (sz := 1) (i := 0) hgi
      rw [Nat.zero_add] at hnth
      have hwk : ∀ st : St, OwnLeS (Go.Bx.sw 48 (5000 + i)) st.own [(2, .fix [.d (slX L)]), (3, .fix [.d (.int .i64 days)]), (5, .fix [.osl 1000]), (6, .fix [.d (.int .i64 s.op)])] →
          own? st.own 1000 = some (.lit 32 1 s.G.length (putV (nestC 0 cI 5000 1 1 0 s.G) i [.osl 48])) →
          (∃ n F, own? st.own 48 = some (.row 3 1 n F) ∧ n = g.length + 1 ∧ ∀ q, q < g.length + 1 → F q = cI ((g ++ [(y : Int)]).getD q 0)) →
          (∀ j, j ≠ i → own? st.own (5000 + j) = own? (nestO 0 cI 5000 1 3 1 0 s.G) (5000 + j)) →
          Wk cB st ⟨[], grO L days ⟨s.G.set i (g ++ [(y : Int)]), s.op⟩, keysO (grO L days ⟨s.G.set i (g ++ [(y : Int)]), s.op⟩)⟩ := by
        intro st q1 q3 q4 q5
        obtain ⟨n, F, q6, rfl, q7⟩ := q4
        have hsw : Go.Bx.sw 48 (5000 + i) 1000 = 1000 := by simp only [Go.Bx.sw, ne_lo, ne_hi, enb, vcb, ↓evSo_some, ↓reduceIte, reduceCtorEq, seval]
        refine Wk.gr 48 (5000 + i) (by decide) (by simp; omega) hfB q1 ⟨_, by rw [hsw]; exact q3, ?_⟩ (fun j g' hg1 hg2 => ?_)
        · have hp := putV_nest (dx := (0 : Int)) (cells := cI) (K := 5000) (τ := 1) (sz := 1) (i0 := 0) (i := i) (g := g ++ [(y : Int)]) hil (by simp; omega) 48
          rw [if_pos (by decide), Nat.zero_add] at hp
          simp only [Own.ren, hp, List.length_set]
          exact OLe.refl _
        · by_cases e : j = i
          · subst e
            rw [List.getElem?_set_self hil] at hg1
            cases hg1
            have hsj : Go.Bx.sw 48 (5000 + j) (5000 + j) = 48 := by unfold Go.Bx.sw; rw [if_neg (by omega), if_pos rfl]
            refine ⟨.row 3 1 (g.length + 1) F, by rw [hsj]; exact q6, ?_⟩
            exact OLe.row (by simp) q7
          · rw [List.getElem?_set_ne (fun g => e g.symm)] at hg1
            refine ⟨_, by rw [show Go.Bx.sw 48 (5000 + i) (5000 + j) = 5000 + j by unfold Go.Bx.sw; rw [if_neg (by omega), if_neg (by omega)], q5 j e]; exact nest_at hg1 hg2, OLe.refl _⟩
      by_cases hg1 : g.length ≤ 1
      · rw [if_pos hg1] at hnth
        have hg0 : g.length = 1 := by omega
        simp only [grO, grE1, slX, ew, hnth, hg0, hK 47 (by decide), hK 48 (by decide), hc, own?_setO, own?_nestD, own?_delSet, own?_delSet2, ne_lo, ne_hi, vcb, ↓evSo_some, ↓reduceIte, reduceCtorEq, seval]
        refine ⟨fun _ => hb1, rfl, ⟨by omega, by omega⟩, hil, by simp only [maxLen]; omega, ⟨by omega, by omega⟩, hil, rfl, rfl, hwk _ ?_ ?_ ⟨_, _, by simp only [own?_setO, own?_nestD, own?_delSet, own?_delSet2, ne_lo, ne_hi, enb, vcb, ↓evSo_some, ↓reduceIte, reduceCtorEq, seval]; rfl, by omega, ?_⟩ fun j hj => ?_⟩
        · simp only [OwnLeS, slX, dayQ, own?_setO, own?_nestD, own?_delSet, own?_delSet2, ne_lo, ne_hi, enb, vcb, ↓evSo_some, ↓reduceIte, reduceCtorEq, seval]
        · simp only [own?_setO, own?_nestD, own?_delSet, own?_delSet2, ne_lo, ne_hi, enb, vcb, ↓evSo_some, ↓reduceIte, reduceCtorEq, seval]
        · intro q hq
          by_cases e : q < g.length
          · have e3 : q < 1 ∨ 1 ≤ q := by omega
            simp [e, cI, List.getElem?_append_left e]; try omega
          · have e2 : q = g.length := by omega
            have hne : ¬ g = [] := fun h => by rw [h] at hge; simp at hge
            subst e2
            first | (simp [litRow, cI]; done) | (simp [litRow, cI, hne, hg0]; done)
        · have hji : (5000 + j = 5000 + i) = False := eq_false (by omega)
          simp only [hji, own?_setO, own?_nestD, own?_delSet, own?_delSet2, ne_lo, ne_hi, enb, vcb, ↓evSo_some, ↓reduceIte, reduceCtorEq, seval]
      · rw [if_neg hg1] at hnth
        have hrow := nest_at hgi (by omega)
        simp only [grO, grE1, slX, ew, hnth, hrow, hK 47 (by decide), hK 48 (by decide), hc, own?_setO, own?_nestD, own?_delSet, own?_delSet2, ne_lo, ne_hi, vcb, ↓evSo_some, ↓reduceIte, reduceCtorEq, seval]
        refine ⟨fun _ => hb1, rfl, ⟨by omega, by omega⟩, hil, ⟨by omega, by simp only [maxLen]; omega⟩, ⟨by omega, by omega⟩, hil, (by
          have hm1 : ∀ a, a < 5000 → (5000 + i == a) = false := fun a ha => by rw [beq_eq_false_iff_ne]; omega
          have hm2 : ∀ a, a < 5000 → (a == 5000 + i) = false := fun a ha => by rw [beq_eq_false_iff_ne]; omega
          simp [ownOk, meetL, hitL, List.range, List.range.loop, hm1, hm2]
          repeat' apply And.intro
          all_goals first | decide | (left; omega) | exact .inl ⟨by omega, by omega⟩ | exact .inl (.inl (by omega))), rfl, hwk _ ?_ ?_ ⟨_, _, by simp only [own?_setO, own?_nestD, own?_delSet, own?_delSet2, ne_lo, ne_hi, enb, vcb, ↓evSo_some, ↓reduceIte, reduceCtorEq, seval]; rfl, by omega, ?_⟩ fun j hj => ?_⟩
        · simp only [OwnLeS, slX, dayQ, own?_setO, own?_nestD, own?_delSet, own?_delSet2, ne_lo, ne_hi, enb, vcb, ↓evSo_some, ↓reduceIte, reduceCtorEq, seval]
        · simp only [own?_setO, own?_nestD, own?_delSet, own?_delSet2, ne_lo, ne_hi, enb, vcb, ↓evSo_some, ↓reduceIte, reduceCtorEq, seval]
        · intro q hq
          by_cases e : q < g.length
          · have e3 : q < 1 ∨ 1 ≤ q := by omega
            simp [e, cI, List.getElem?_append_left e]; try omega
          · have e2 : q = g.length := by omega
            have hne : ¬ g = [] := fun h => by rw [h] at hge; simp at hge
            subst e2
            first | (simp [litRow, cI]; done) | (simp [litRow, cI, hne]; done)
        · have hji : (5000 + j = 5000 + i) = False := eq_false (by omega)
          simp only [hji, own?_setO, own?_nestD, own?_delSet, own?_delSet2, ne_lo, ne_hi, enb, vcb, ↓evSo_some, ↓reduceIte, reduceCtorEq, seval]
  · simp only [grE, grO, slX, own?_setO, own?_nestD, vcb, ↓evSo_some, ↓reduceIte, reduceCtorEq, seval]
    refine RetK.mk _ ((Wk.nestPub (dx := 0) (cells := cI) (K' := 1000) (K := 5000) (τ := 1) (e' := 32) (e := 3) (sz := 1) (G := (grRun L days L.length).G) (own' := [(1000, .row 32 1 (grRun L days L.length).G.length (nestD 0 cI 1 (grRun L days L.length).G))]) (by simp only [grO, vcb, ↓evSo_some, ↓reduceIte, reduceCtorEq, seval])
        (fun i g hg1 hg2 => by simp only [grO, ne_lo, ne_hi, nest_at hg1 hg2, vcb, ↓evSo_some, ↓reduceIte, reduceCtorEq, seval]) (by simp [keysO]) (fun k o hm => by simp at hm; obtain ⟨rfl, rfl⟩ := hm; exact .inl ⟨rfl, rfl⟩) (fun i hi => by simp [keysO]; omega)).trans (Wk.pub 1000 rfl)) (by simp only [rs13, rsb, vcb, ↓evSo_some, ↓reduceIte, reduceCtorEq, seval]) ?_ trivial
    simp only [rs13, rsb, vcb, ↓evSo_some, ↓reduceIte, reduceCtorEq, seval]
    exact VLe.refl _
end Go.Proofs.Ytkifajabiggfmaa
end
section
set_option linter.unusedSimpArgs false
set_option linter.unusedVariables false
namespace Go.Proofs.Ytkifajabiggfmaa
set_option linter.unusedSimpArgs false
set_option linter.unusedVariables false
open Go.Bx
set_option maxRecDepth 10000
def dayI (L : List Ls) (i : Int) : Int := (L.getD i.toNat default).day
def inL (L : List Ls) (a : List Int) : Prop := ∀ i, i ∈ a → 0 ≤ i ∧ i < L.length
end Go.Proofs.Ytkifajabiggfmaa
end
section
set_option linter.unusedSimpArgs false
set_option linter.unusedVariables false
namespace Go.Proofs.Ytkifajabiggfmaa
set_option linter.unusedSimpArgs false
set_option linter.unusedVariables false
open Go.Bx
set_option maxRecDepth 10000
section
variable {X : Type} {dx : X} {cells : X → List D}
end
structure RgS where
  G : List (List Int)
  g : List Int
def rgStep (L : List Ls) (days : Int) (y : Int) (s : RgS) : RgS :=
  if 0 < s.g.length ∧ max 1 days ≤ IntKind.i64.wrap (dayI L y - dayI L (s.g.getD 0 0)) then ⟨s.G ++ [s.g], [y]⟩ else ⟨s.G, s.g ++ [y]⟩
def rgFin (s : RgS) : List (List Int) := if 0 < s.g.length then s.G ++ [s.g] else s.G
structure RgI (L : List Ls) (k : Nat) (s : RgS) : Prop where
  len : s.G.length ≤ k ∧ s.g.length ≤ k
  each : ∀ g, g ∈ s.G → 1 ≤ g.length ∧ g.length ≤ k
  ins : inL L s.g
  pos : 0 < k → 0 < s.g.length
theorem RgI.step {L : List Ls} {days y : Int} {k : Nat} {s : RgS} (h : RgI L k s) (hy : 0 ≤ y ∧ y < L.length) : RgI L (k + 1) (rgStep L days y s) := by
  unfold rgStep
  split
  · rename_i hc
    refine ⟨by simp; have := h.len; omega, fun g hg => ?_, fun i hi => by simp at hi; subst hi; exact hy, fun _ => by simp⟩
    rcases List.mem_append.1 hg with h1 | h1
    · have := h.each g h1; omega
    · simp at h1; subst h1; have := h.len; omega
  · refine ⟨by simp; have := h.len; omega, fun g hg => by have := h.each g hg; omega, fun i hi => ?_, fun _ => by simp⟩
    rcases List.mem_append.1 hi with h1 | h1
    · exact h.ins i h1
    · simp at h1; subst h1; exact hy
end Go.Proofs.Ytkifajabiggfmaa
end
section
set_option linter.unusedSimpArgs false
set_option linter.unusedVariables false
namespace Go.Proofs.Ytkifajabiggfmaa
set_option linter.unusedSimpArgs false
set_option linter.unusedVariables false
open Go.Bx
set_option maxRecDepth 10000
def rowsD (G : List (List Int)) : D := .sl false 1 G.length (nestD 0 cI 1 G)
theorem rSame2 (G H : List (List Int)) (hG : G.length ≤ 1000000) (hg : ∀ g, g ∈ G → g.length ≤ 1000000) : Ctr Try.prog 12 [.d (rowsD G), .d (rowsD H)] [] (.d (.bool (decide (G = H)))) [] [] := by
  by_cases hl : G.length = H.length
  · have d0 : (((G.length : Int) != (H.length : Int))) = false := by rw [bne_eq_false_iff_eq]; omega
    refine ctr_pure Try.func12 ok12 rfl cc12 cr12 Try.ntmps12 (by simp) rfl rfl ?_; intro c hP hfn; simp only [kc12, rowsD, d0, vcb, ↓evSo_some, ↓reduceIte, reduceCtorEq, seval]
    repeat' first
        | refine And.intro (fun h => ?_) (fun h => ?_)
        | refine And.intro (by first | omega | (simp only [maxLen, decide_eq_true_eq, decide_eq_false_iff_not] at *; omega)) ?_
        | (refine TR.aslO rfl rfl rfl rfl trivial (Nat.le_of_ble_eq_true rfl) ?_
           try simp only [d0, vcb, ↓evSo_some, ↓reduceIte, reduceCtorEq, seval])
        | refine And.intro trivial ?_
        | refine And.intro rfl ?_
        | fail
    refine vcC.loop (X := Nat) (fun k => ⟨[(0, .d (rowsD G)), (1, .d (rowsD H)), (5, .d (.int .i64 k))], [], []⟩)
      (fun k => k ≤ G.length ∧ ∀ j, j < k → G.getD j [] = H.getD j []) (fun k => G.length - k) 0 ⟨Nat.zero_le _, fun j hj => absurd hj (Nat.not_lt_zero j)⟩ (Wk.of _ hfn rfl (by simp only [rowsD, enb, vcb, ↓evSo_some, ↓reduceIte, reduceCtorEq, seval]) (by simp only [enb, vcb, ↓evSo_some, ↓reduceIte, reduceCtorEq, seval])) ?_
    rintro k ⟨hk, he⟩
    simp only [rowsD, vcb, ↓evSo_some, ↓reduceIte, reduceCtorEq, seval]
    refine ⟨fun h1 => ?_, fun h1 => ?_⟩
    · have hlt : k < G.length := by have := of_decide_eq_true h1; omega
      obtain ⟨g, hdg, hgg, hgm, -⟩ := drop_at hlt
      obtain ⟨g2, hdh, hgh, -, -⟩ := drop_at (l := H) (k := k) (by omega)
      have cs := s17 g g2 (by have := hg g hgm; omega)
      simp only [slK] at cs
      have e1 : ∀ d, G.getD k d = g := hgg
      have e2 : ∀ d, H.getD k d = g2 := hgh
      simp only [nestD, cI, e1, e2, vcb, ↓evSo_some, ↓reduceIte, reduceCtorEq, seval]
      repeat' first
          | (first
              | refine TR.p hP (by first | exact cs) (by repeat' first | exact trivial | (intro _; assumption) | apply And.intro) ?_
              | refine TR.gp hP rfl (fun _ => by first | exact cs) (fun _ => by repeat' first | exact trivial | (intro _; assumption) | apply And.intro) ?_
              | refine TR.pv hP rfl (by first | exact cs) trivial (by repeat' first | exact trivial | (intro _; assumption) | apply And.intro) ?_
             try simp only [nestD, cI, e1, e2, vcb, ↓evSo_some, ↓reduceIte, reduceCtorEq, seval])
          | refine And.intro (fun h => ?_) (fun h => ?_)
          | refine And.intro (by first | omega | (simp only [maxLen, decide_eq_true_eq, decide_eq_false_iff_not] at *; omega)) ?_
          | (refine TR.aslO rfl rfl rfl rfl trivial (Nat.le_of_ble_eq_true rfl) ?_
             try simp only [nestD, cI, e1, e2, vcb, ↓evSo_some, ↓reduceIte, reduceCtorEq, seval])
          | refine And.intro trivial ?_
          | refine And.intro rfl ?_
          | fail
      · have hne : g ≠ g2 := by simpa using h
        have : G ≠ H := fun e => hne (by rw [← hgg [], ← hgh [], e])
        exact RetK.pure (by simp only [rs12, rsb, vcb, ↓evSo_some, ↓reduceIte, reduceCtorEq, seval]) (by (simp only [rs12, rsb, vcb, ↓evSo_some, ↓reduceIte, reduceCtorEq, seval, enb, vcb, ↓evSo_some, ↓reduceIte, reduceCtorEq, seval]) <;> (first | simp [this]))
      · have hne : g = g2 := by simpa using h
        exact lopK.on (k + 1) ⟨hlt, fun j hj => by
          rcases Nat.lt_or_eq_of_le (Nat.le_of_lt_succ hj) with h2 | h2
          · exact he j h2
          · rw [h2, hgg, hgh, hne]⟩ (by omega) (Wk.of _ hfn rfl (by simp only [rowsD, nestD, cI, enb, vcb, ↓evSo_some, ↓reduceIte, reduceCtorEq, seval]; exact wS (by omega)) (by simp only [enb, vcb, ↓evSo_some, ↓reduceIte, reduceCtorEq, seval]))
    · have hkl : k = G.length := by have := of_decide_eq_false h1; omega
      have hGH : G = H := by
        refine List.ext_getElem? fun j => ?_
        by_cases hj : j < G.length
        · have := he j (by omega)
          rw [List.getD_eq_getElem?_getD, List.getD_eq_getElem?_getD, List.getElem?_eq_getElem hj, List.getElem?_eq_getElem (by omega : j < H.length)] at this
          rw [List.getElem?_eq_getElem hj, List.getElem?_eq_getElem (by omega : j < H.length)]
          simpa using this
        · rw [List.getElem?_eq_none (by omega), List.getElem?_eq_none (by omega)]
      repeat' first
          | refine And.intro (fun h => ?_) (fun h => ?_)
          | refine And.intro (by first | omega | (simp only [maxLen, decide_eq_true_eq, decide_eq_false_iff_not] at *; omega)) ?_
          | (refine TR.aslO rfl rfl rfl rfl trivial (Nat.le_of_ble_eq_true rfl) ?_
             try simp only [vcb, ↓evSo_some, ↓reduceIte, reduceCtorEq, seval])
          | refine And.intro trivial ?_
          | refine And.intro rfl ?_
          | fail
      exact RetK.pure (by simp only [rs12, rsb, vcb, ↓evSo_some, ↓reduceIte, reduceCtorEq, seval]) (by (simp only [rs12, rsb, vcb, ↓evSo_some, ↓reduceIte, reduceCtorEq, seval, enb, vcb, ↓evSo_some, ↓reduceIte, reduceCtorEq, seval]) <;> (first | simp [hGH]))
  · have d0 : (((G.length : Int) != (H.length : Int))) = true := by rw [bne_iff_ne]; omega
    have : G ≠ H := fun e => hl (by rw [e])
    refine ctr_pure Try.func12 ok12 rfl cc12 cr12 Try.ntmps12 (by simp) rfl rfl ?_; intro c hP hfn; simp only [kc12, rowsD, d0, vcb, ↓evSo_some, ↓reduceIte, reduceCtorEq, seval]
    repeat' first
        | refine And.intro (fun h => ?_) (fun h => ?_)
        | refine And.intro (by first | omega | (simp only [maxLen, decide_eq_true_eq, decide_eq_false_iff_not] at *; omega)) ?_
        | (refine TR.aslO rfl rfl rfl rfl trivial (Nat.le_of_ble_eq_true rfl) ?_
           try simp only [d0, vcb, ↓evSo_some, ↓reduceIte, reduceCtorEq, seval])
        | refine And.intro trivial ?_
        | refine And.intro rfl ?_
        | fail
    exact RetK.pure (by simp only [rs12, rsb, vcb, ↓evSo_some, ↓reduceIte, reduceCtorEq, seval]) (by (simp only [rs12, rsb, vcb, ↓evSo_some, ↓reduceIte, reduceCtorEq, seval, enb, vcb, ↓evSo_some, ↓reduceIte, reduceCtorEq, seval]) <;> (first | simp [this]))
end Go.Proofs.Ytkifajabiggfmaa
end
section
set_option linter.unusedSimpArgs false
set_option linter.unusedVariables false
namespace Go.Proofs.Ytkifajabiggfmaa
set_option linter.unusedSimpArgs false
set_option linter.unusedVariables false
open Go.Bx
set_option maxRecDepth 10000
theorem few (L : List Ls) : Ctr Try.prog 10 [.d (slX L)] [] (.d (.bool (decide (L.length ≤ 150)))) [] [] := by
  rw [show decide (L.length ≤ 150) = decide ((L.length : Int) ≤ 150) from decide_eq_decide.2 (by omega)]
  refine ctr_pure Try.func10 ok10 rfl cc10 cr10 Try.ntmps10 (by simp) rfl rfl ?_; intro c hP hfn; simp only [kc10, slX, vcb, ↓evSo_some, ↓reduceIte, reduceCtorEq, seval]
  exact RetK.pure (by simp only [rs10, rsb, vcb, ↓evSo_some, ↓reduceIte, reduceCtorEq, seval]) (by simp only [rs10, rsb, vcb, ↓evSo_some, ↓reduceIte, reduceCtorEq, seval, enb, vcb, ↓evSo_some, ↓reduceIte, reduceCtorEq, seval])
def ofT (a b c : Int) : Tr := ⟨1, 3, 1, 100, 0, a, b, c, 255⟩
def lossT (a b c : Int) : Ls := ⟨1, a, b, 0, c⟩
theorem lOf (a b c : Int) : Ctr Try.prog 25 [.d (.int .i64 a), .d (.int .i64 b), .d (.int .i64 c)] [] (vT (ofT a b c)) [] [] := by
  refine ctr_pure Try.func25 ok25 rfl cc25 cr25 Try.ntmps25 (by simp) rfl rfl ?_; intro c hP hfn; simp only [kc25, vcb, ↓evSo_some, ↓reduceIte, reduceCtorEq, seval]
  exact RetK.pure (by simp only [rs25, rsb, vcb, ↓evSo_some, ↓reduceIte, reduceCtorEq, seval]) (by simp only [rs25, rsb, vcb, ↓evSo_some, ↓reduceIte, reduceCtorEq, seval, enb, vcb, ↓evSo_some, ↓reduceIte, reduceCtorEq, seval, vT, cT, ofT])
theorem lLoss (a b c : Int) : Ctr Try.prog 24 [.d (.int .i64 a), .d (.int .i64 b), .d (.int .i64 c)] [] (vX (lossT a b c)) [] [] := by
  refine ctr_pure Try.func24 ok24 rfl cc24 cr24 Try.ntmps24 (by simp) rfl rfl ?_; intro c hP hfn; simp only [kc24, vcb, ↓evSo_some, ↓reduceIte, reduceCtorEq, seval]
  exact RetK.pure (by simp only [rs24, rsb, vcb, ↓evSo_some, ↓reduceIte, reduceCtorEq, seval]) (by simp only [rs24, rsb, vcb, ↓evSo_some, ↓reduceIte, reduceCtorEq, seval, enb, vcb, ↓evSo_some, ↓reduceIte, reduceCtorEq, seval, vX, cX', lossT])
theorem VLe.slD {full full' : Bool} {sz n : Nat} {f f' : Nat → List D} (hb : full' = true → full = true) (hf : ∀ i, i < n → (f i).length = (f' i).length ∧ ∀ (j : Nat) (x y : D), (f i)[j]? = some x → (f' i)[j]? = some y → VLe (.d x) (.d y)) : VLe (.d (.sl full sz n f)) (.d (.sl full' sz n f')) := by
  intro β E w v hv
  cases hv with
  | d _ _ hv =>
    refine .d _ _ ?_
    generalize hN : n = m at hv ⊢
    cases hv with
    | nil _ _ _ _ => exact .nil _ _ _ _
    | sl _ _ _ _ b off c g hc hfu hl hcell hrel =>
      subst hN
      refine .sl _ _ _ _ b off c g hc (fun h => hfu (hb h)) (fun i hi => by rw [← (hf i hi).1]; exact hl i hi) hcell (fun i j hi hj y hy => ?_)
      have hlt : j < (f i).length := by rw [hl i hi]; exact hj
      have h1 := hrel i j hi hj _ (List.getElem?_eq_getElem hlt)
      have h2 := (hf i hi).2 j _ y (List.getElem?_eq_getElem hlt) hy
      exact rel_d (h2 β E w _ (.d _ _ h1))
def exL : List Ls := [lossT 7 5 50, lossT 0 3 120, lossT 7 9 150]
theorem ex_bears0 : bearsE (ofT 100 60 0) exL = ([15, 0, 45], 0) := by decide +kernel
theorem ex_bears1 : bearsE (ofT 100 60 1) exL = ([15, 20, 45], 0) := by decide +kernel
theorem ex_bears2 : bearsE ⟨0, 0, 0, 0, 0, 0, 0, 0, 0⟩ exL = ([], 1) := by decide +kernel
theorem ex_group : groupT exL 3 = [[1, 0], [2]] := by decide +kernel
theorem ex_events : eventsT (ofT 1 1 1) exL = [[0, 2], [1]] := by decide +kernel
def eL : V := .d (.sl true 5 3 (litRow 5 [.int .i64 1, .int .i64 7, .int .i64 5, .int .i64 0, .int .i64 50, .int .i64 1, .int .i64 0, .int .i64 3, .int .i64 0, .int .i64 120, .int .i64 1, .int .i64 7, .int .i64 9, .int .i64 0, .int .i64 150]))
def eB0 : V := .d (.sl true 1 3 (litRow 1 [.int .i64 15, .int .i64 0, .int .i64 45]))
def eB1 : V := .d (.sl true 1 3 (litRow 1 [.int .i64 15, .int .i64 20, .int .i64 45]))
def eG : V := .d (.sl true 1 2 (litRow 1 [.sl true 1 2 (litRow 1 [.int .i64 1, .int .i64 0]), .sl true 1 1 (litRow 1 [.int .i64 2])]))
def eE : V := .d (.sl true 1 2 (litRow 1 [.sl true 1 2 (litRow 1 [.int .i64 0, .int .i64 2]), .sl true 1 1 (litRow 1 [.int .i64 1])]))
theorem vle_exL : VLe eL (.d (slX exL)) :=
  VLe.sl rfl (fun _ => rfl) (fun h => by cases h) fun i hi => by
    have : i = 0 ∨ i = 1 ∨ i = 2 := by omega
    rcases this with rfl | rfl | rfl <;> rfl
theorem vle_rows {a b c : Int} : VLe (.d (.sl true 1 2 (litRow 1 [.sl true 1 2 (litRow 1 [.int .i64 a, .int .i64 b]), .sl true 1 1 (litRow 1 [.int .i64 c])]))) (.d (rowsD [[a, b], [c]])) := by
  refine VLe.slD (fun h => by cases h) fun i hi => ?_
  have : i = 0 ∨ i = 1 := by omega
  rcases this with rfl | rfl <;> refine ⟨rfl, fun j x y hx hy => ?_⟩ <;> (
    have hj : j = 0 := by
      have := (List.getElem?_eq_some_iff.1 hy).1
      simp [nestD] at this; exact this
    subst hj
    simp [litRow] at hx
    simp [nestD] at hy
    subst hx; subst hy)
  · exact VLe.sl rfl (fun _ => rfl) (fun h => by cases h) fun i hi => by
      have : i = 0 ∨ i = 1 := by omega
      rcases this with rfl | rfl <;> rfl
  · exact VLe.sl rfl (fun _ => rfl) (fun h => by cases h) fun i hi => by
      have : i = 0 := by omega
      subst this; rfl
set_option maxHeartbeats 2000000 in
theorem lAlive : Ctr Try.prog 11 [] [] (.d (.bool true)) [] [] := by
  have c1 := sBears (ofT 100 60 0) exL (by decide)
  rw [ex_bears0] at c1
  have c1 := c1.arg (args := [vT (ofT 100 60 0), eL]) ⟨VLe.refl _, vle_exL, trivial⟩
  have c2 := sBears (ofT 100 60 1) exL (by decide)
  rw [ex_bears1] at c2
  have c2 := c2.arg (args := [vT (ofT 100 60 1), eL]) ⟨VLe.refl _, vle_exL, trivial⟩
  have c3 := sBears ⟨0, 0, 0, 0, 0, 0, 0, 0, 0⟩ exL (by decide)
  rw [ex_bears2] at c3
  have c3 := c3.arg (args := [vT ⟨0, 0, 0, 0, 0, 0, 0, 0, 0⟩, eL]) ⟨VLe.refl _, vle_exL, trivial⟩
  have c4 := (s17 [15, 0, 45] [15, 0, 45] (by decide)).arg (args := [.d (slK .i64 [15, 0, 45]), eB0]) ⟨VLe.refl _, LitI.vle (by repeat constructor) (by rfl), trivial⟩
  have c5 := (s17 [15, 20, 45] [15, 20, 45] (by decide)).arg (args := [.d (slK .i64 [15, 20, 45]), eB1]) ⟨VLe.refl _, LitI.vle (by repeat constructor) (by rfl), trivial⟩
  have c6 := sGroup exL 3 (by decide)
  rw [ex_group] at c6
  have c6 := c6.arg (args := [eL, .d (.int .i64 3)]) ⟨vle_exL, VLe.refl _, trivial⟩
  have c7 := (rSame2 [[1, 0], [2]] [[1, 0], [2]] (by decide) (by decide)).arg (args := [.d (rowsD [[1, 0], [2]]), eG]) ⟨VLe.refl _, vle_rows, trivial⟩
  have c8 := sEvents (ofT 1 1 1) exL (by decide)
  rw [ex_events] at c8
  have c8 := c8.arg (args := [vT (ofT 1 1 1), eL]) ⟨VLe.refl _, vle_exL, trivial⟩
  have c9 := (rSame2 [[0, 2], [1]] [[0, 2], [1]] (by decide) (by decide)).arg (args := [.d (rowsD [[0, 2], [1]]), eE]) ⟨VLe.refl _, vle_rows, trivial⟩
  have d1 := lLoss
  have d2 := lOf
  simp only [vT, vX, cT, cX', ofT, lossT, eL, eB0, eB1, eG, eE, rowsD, slK, List.length_cons, List.length_nil, Nat.zero_add, Nat.reduceAdd, decide_true] at c1 c2 c3 c4 c5 c6 c7 c8 c9 d1 d2
  refine ctr_pure Try.func11 ok11 rfl cc11 cr11 Try.ntmps11 (by simp) rfl rfl ?_; intro c hP hfn; simp only [kc11, vcb, ↓evSo_some, ↓reduceIte, reduceCtorEq, seval]
  repeat' first
      | (first
          | refine TR.p hP (by first | exact d1 _ _ _ | exact d2 _ _ _ | exact c1 | exact c2 | exact c3 | exact c4 | exact c5 | exact c6 | exact c7 | exact c8 | exact c9) (by repeat' first | exact trivial | (intro _; assumption) | apply And.intro) ?_
          | refine TR.gp hP rfl (fun _ => by first | exact d1 _ _ _ | exact d2 _ _ _ | exact c1 | exact c2 | exact c3 | exact c4 | exact c5 | exact c6 | exact c7 | exact c8 | exact c9) (fun _ => by repeat' first | exact trivial | (intro _; assumption) | apply And.intro) ?_
          | refine TR.pv hP rfl (by first | exact d1 _ _ _ | exact d2 _ _ _ | exact c1 | exact c2 | exact c3 | exact c4 | exact c5 | exact c6 | exact c7 | exact c8 | exact c9) trivial (by repeat' first | exact trivial | (intro _; assumption) | apply And.intro) ?_
         try simp only [Int.reduceBEq, Int.reduceNeg, vcb, ↓evSo_some, ↓reduceIte, reduceCtorEq, seval])
      | refine And.intro (fun h => ?_) (fun h => ?_)
      | refine And.intro (by first | omega | (simp only [maxLen, decide_eq_true_eq, decide_eq_false_iff_not] at *; omega)) ?_
      | (refine TR.aslO rfl rfl rfl rfl trivial (Nat.le_of_ble_eq_true rfl) ?_
         try simp only [Int.reduceBEq, Int.reduceNeg, vcb, ↓evSo_some, ↓reduceIte, reduceCtorEq, seval])
      | refine And.intro trivial ?_
      | refine And.intro rfl ?_
      | fail
  all_goals exact RetK.pure (by simp only [rs11, rsb, vcb, ↓evSo_some, ↓reduceIte, reduceCtorEq, seval]) (by (simp only [rs11, rsb, vcb, ↓evSo_some, ↓reduceIte, reduceCtorEq, seval, enb, vcb, ↓evSo_some, ↓reduceIte, reduceCtorEq, seval]) <;> (first | simp))
end Go.Proofs.Ytkifajabiggfmaa
end
section
set_option linter.unusedSimpArgs false
set_option linter.unusedVariables false
namespace Go.Proofs.Ytkifajabiggfmaa
set_option linter.unusedSimpArgs false
set_option linter.unusedVariables false
open Go.Bx
set_option maxRecDepth 10000
theorem bearsF_len (t : Tr) (l : List Ls) : ∀ (G : List (List Int)) (left : Int) (out : List Int), (bearsF t l left G out).length = out.length
  | [], _, _ => rfl
  | g :: G, left, out => by rw [bearsF, bearsF_len t l G, putAll_len]
theorem bearsE_len (t : Tr) (l : List Ls) : (bearsE t l).1.length ≤ l.length := by
  unfold bearsE
  split
  · simp
  · split
    · simp
    · simp [bearsF_len]
end Go.Proofs.Ytkifajabiggfmaa
end
section
set_option linter.unusedSimpArgs false
set_option linter.unusedVariables false
namespace Go.Proofs.Ytkifajabiggfmaa
set_option linter.unusedSimpArgs false
set_option linter.unusedVariables false
open Go.Bx
set_option maxRecDepth 10000
theorem dayI_nat (L : List Ls) (k : Nat) : dayI L (k : Int) = dayQ L k := by unfold dayI dayQ; rw [Int.toNat_natCast]
structure GrRel (L : List Ls) (s : GrS) (r : RgS) : Prop where
  G : s.G = rgFin r
  op : 0 < r.g.length → s.op = dayI L (r.g.getD 0 0)
  e : r.g.length = 0 → r.G = []
theorem GrRel.step {L : List Ls} {days : Int} {s : GrS} {r : RgS} (h : GrRel L s r) (y : Nat) : GrRel L (grStep L days y s) (rgStep L days (y : Int) r) := by
  by_cases hg : 0 < r.g.length
  · have hG : s.G = r.G ++ [r.g] := by rw [h.G, rgFin, if_pos hg]
    have hl : s.G.length = r.G.length + 1 := by rw [hG]; simp
    have ho := h.op hg
    by_cases hc : max 1 days ≤ IntKind.i64.wrap (dayI L (y : Int) - dayI L (r.g.getD 0 0))
    · rw [grStep, if_pos (.inr (by rw [ho, ← dayI_nat]; exact hc)), rgStep, if_pos ⟨hg, hc⟩]
      exact ⟨by simp [rgFin, hG], fun _ => by simp [dayI_nat], fun h => by simp at h⟩
    · rw [grStep, if_neg (by rw [ho, ← dayI_nat]; omega), rgStep, if_neg (fun h => hc h.2)]
      refine ⟨?_, fun _ => ?_, fun h => by simp at h⟩
      · rw [rgFin, if_pos (by simp)]
        simp only [hl, Nat.add_sub_cancel]
        rw [hG]
        have e1 : (r.G ++ [r.g]).getD r.G.length [] = r.g := by rw [List.getD_eq_getElem?_getD, List.getElem?_append_right (Nat.le_refl _)]; simp
        rw [e1, List.set_append_right _ _ (Nat.le_refl _)]; simp
      · simp only; rw [ho]
        have : (r.g ++ [(y : Int)]).getD 0 0 = r.g.getD 0 0 := by rw [List.getD_eq_getElem?_getD, List.getElem?_append_left hg, ← List.getD_eq_getElem?_getD]
        rw [this]
  · have hg0 : r.g = [] := List.eq_nil_of_length_eq_zero (by omega)
    have hGr := h.e (by omega)
    have hG : s.G = [] := by rw [h.G, rgFin, if_neg hg, hGr]
    rw [grStep, if_pos (.inl (by rw [hG]; rfl)), rgStep, if_neg (fun h => hg h.1)]
    exact ⟨by simp [rgFin, hG, hg0, hGr], fun _ => by simp [hg0, dayI_nat], fun h => by simp at h⟩
end Go.Proofs.Ytkifajabiggfmaa
end
section
set_option linter.unusedSimpArgs false
set_option linter.unusedVariables false
namespace Go.Proofs.Ytkifajabiggfmaa
set_option linter.unusedSimpArgs false
set_option linter.unusedVariables false
open Go.Bx
set_option maxRecDepth 10000
theorem impFT {A : Prop} : (false = true → A) = True := eq_true (fun h => by cases h)
theorem impTF {A : Prop} : (true = false → A) = True := eq_true (fun h => by cases h)
def hdI (g : List Int) : Int := g.getD 0 0
structure WI (L : List Ls) (days : Int) (k : Nat) (s : GrS) : Prop where
  flat : s.G.flatten = ((ordQ L).take k).map (fun k : Nat => (k : Int))
  each : ∀ g, g ∈ s.G → 0 < g.length ∧ ∀ i, i ∈ g → dayI L (hdI g) ≤ dayI L i ∧ dayI L i < dayI L (hdI g) + days
  chain : ∀ j, j + 1 < s.G.length → days ≤ dayI L (hdI (s.G.getD (j + 1) [])) - dayI L (hdI (s.G.getD j []))
  op : ∀ j, j + 1 = s.G.length → s.op = dayI L (hdI (s.G.getD j []))
theorem WI.step {L : List Ls} {days : Int} {k : Nat} {s : GrS} (h : WI L days k s) (hd : 1 ≤ days ∧ days ≤ 1099511627776) (hx : ∀ x, x ∈ L → 1 ≤ x.day ∧ x.day ≤ 292194) (hk : k < L.length) : WI L days (k + 1) (grStep L days ((ordQ L).getD k 0) s) := by
  have hlen := ordQ_len L
  have hko : k < (ordQ L).length := by omega
  have hday : ∀ j, j < L.length → 1 ≤ dayQ L j ∧ dayQ L j ≤ 292194 := fun j hj => by
    unfold dayQ; rw [List.getD_eq_getElem?_getD, List.getElem?_eq_getElem hj]; exact hx _ (List.getElem_mem hj)
  obtain ⟨y, hy⟩ : ∃ y, (ordQ L).getD k 0 = y := ⟨_, rfl⟩
  have hyl : y < L.length := by rw [← hy]; exact ordQ_lt hk
  have hye : (ordQ L)[k] = y := by rw [← hy, List.getD_eq_getElem?_getD, List.getElem?_eq_getElem hko]; rfl
  have hfl : ((ordQ L).take (k + 1)).map (fun k : Nat => (k : Int)) = ((ordQ L).take k).map (fun k : Nat => (k : Int)) ++ [(y : Int)] := by
    rw [List.take_add_one, List.getElem?_eq_getElem hko, hye]; simp
  have hle : ∀ i, i ∈ s.G.flatten → 1 ≤ dayI L i ∧ dayI L i ≤ dayQ L y := by
    intro i hi
    rw [h.flat] at hi
    obtain ⟨a, ha, rfl⟩ := List.mem_map.1 hi
    obtain ⟨j, hj⟩ := List.mem_iff_getElem?.1 ha
    have hjk : j < k := by have := (List.getElem?_eq_some_iff.1 hj).1; rw [List.length_take] at this; omega
    rw [List.getElem?_take_of_lt hjk] at hj
    have hjl := (List.getElem?_eq_some_iff.1 hj).1
    have hje := (List.getElem?_eq_some_iff.1 hj).2
    have hp := List.pairwise_iff_getElem.1 (ordQ_ok L).1 j k hjl hko hjk
    rw [hye, hje] at hp
    have := (lessQ_false L y a).1 hp
    have hal : a < L.length := by rw [← hje]; have := ordQ_lt (L := L) (k := j) (by omega); rwa [List.getD_eq_getElem?_getD, List.getElem?_eq_getElem hjl] at this
    have := hday a hal
    rw [dayI_nat]; omega
  have hyd := hday y hyl
  rw [hy]
  have hm : max 1 days = days := by omega
  by_cases h0 : s.G.length = 0
  · have hG : s.G = [] := List.eq_nil_of_length_eq_zero h0
    rw [grStep, if_pos (.inl h0)]
    refine ⟨?_, fun g hg => ?_, fun j hj => ?_, fun j hj => ?_⟩
    · simp only; rw [hfl, ← h.flat, hG]; simp
    · simp only [hG, List.nil_append, List.mem_singleton] at hg; subst hg
      refine ⟨by simp, fun i hi => ?_⟩
      rw [List.mem_singleton] at hi; subst hi
      simp only [hdI, List.getD_cons_zero]; omega
    · simp [hG] at hj
    · simp only [hG, List.nil_append, List.length_singleton] at hj ⊢
      have : j = 0 := by omega
      subst this; simp [hdI, dayI_nat]
  · obtain ⟨n, hn⟩ : ∃ n, s.G.length = n + 1 := ⟨s.G.length - 1, by omega⟩
    have hop := h.op n (by omega)
    have hgn : s.G[n]? = some (s.G.getD n []) := by rw [List.getD_eq_getElem?_getD, List.getElem?_eq_getElem (by omega)]; rfl
    have hgm : s.G.getD n [] ∈ s.G := List.mem_of_getElem? hgn
    obtain ⟨g, hg⟩ : ∃ g, s.G.getD n [] = g := ⟨_, rfl⟩
    rw [hg] at hop hgn hgm
    have hge := h.each g hgm
    have hhd : hdI g ∈ g := by unfold hdI; rw [List.getD_eq_getElem?_getD, List.getElem?_eq_getElem hge.1]; exact List.getElem_mem hge.1
    have hho := hle (hdI g) (List.mem_flatten.2 ⟨g, hgm, hhd⟩)
    have hw : IntKind.i64.wrap (dayQ L y - s.op) = dayQ L y - s.op := wI (by omega)
    have hGe : s.G = s.G.take n ++ [g] := by
      have := List.take_append_drop n s.G
      rw [List.drop_eq_getElem_cons (by omega), (List.getElem?_eq_some_iff.1 hgn).2, List.drop_eq_nil_of_le (by omega)] at this
      exact this.symm
    by_cases hc : days ≤ dayQ L y - s.op
    · rw [grStep, if_pos (.inr (by rw [hm, hw]; exact hc))]
      refine ⟨?_, fun g' hg' => ?_, fun j hj => ?_, fun j hj => ?_⟩
      · simp only; rw [hfl, ← h.flat]; simp
      · rcases List.mem_append.1 hg' with h1 | h1
        · exact h.each g' h1
        · rw [List.mem_singleton] at h1; subst h1
          refine ⟨by simp, fun i hi => ?_⟩
          rw [List.mem_singleton] at hi; subst hi
          simp only [hdI, List.getD_cons_zero]; omega
      · simp only [List.length_append, List.length_singleton] at hj
        by_cases hj1 : j + 1 < s.G.length
        · have := h.chain j hj1
          rw [List.getD_eq_getElem?_getD, List.getD_eq_getElem?_getD, List.getElem?_append_left hj1, List.getElem?_append_left (by omega), ← List.getD_eq_getElem?_getD, ← List.getD_eq_getElem?_getD]; exact this
        · have hjn : j = n := by omega
          subst hjn
          rw [List.getD_eq_getElem?_getD, List.getD_eq_getElem?_getD, List.getElem?_append_right (by omega), List.getElem?_append_left (by omega), hgn]
          rw [hop] at hc
          simp [hn, hdI, dayI_nat] at hc ⊢; omega
      · simp only [List.length_append, List.length_singleton] at hj
        rw [List.getD_eq_getElem?_getD, List.getElem?_append_right (by omega)]
        have : j - s.G.length = 0 := by omega
        simp [this, hdI, dayI_nat]
    · rw [grStep, if_neg (by rw [hm, hw]; omega)]
      have hgd : s.G.getD (s.G.length - 1) [] = g := by rw [show s.G.length - 1 = n by omega]; exact hg
      have hhead : hdI (g ++ [(y : Int)]) = hdI g := by unfold hdI; rw [List.getD_eq_getElem?_getD, List.getElem?_append_left hge.1, ← List.getD_eq_getElem?_getD]
      rw [hgd, show s.G.length - 1 = n by omega]
      have hset : s.G.set n (g ++ [(y : Int)]) = s.G.take n ++ [g ++ [(y : Int)]] := by
        conv => lhs; rw [hGe]
        have : (s.G.take n).length = n := by rw [List.length_take]; omega
        rw [List.set_append_right _ _ (by omega), this]; simp
      have hgetD : ∀ j, hdI ((s.G.set n (g ++ [(y : Int)])).getD j []) = hdI (s.G.getD j []) := fun j => by
        by_cases e : j = n
        · subst e; rw [List.getD_eq_getElem?_getD, List.getElem?_set_self (by omega), hg]; exact hhead
        · rw [List.getD_eq_getElem?_getD, List.getElem?_set_ne (fun g => e g.symm), ← List.getD_eq_getElem?_getD]
      refine ⟨?_, fun g' hg' => ?_, fun j hj => ?_, fun j hj => ?_⟩
      · simp only; rw [hfl, ← h.flat, hset]
        conv => rhs; rw [hGe]
        simp
      · simp only at hg'
        rcases List.mem_or_eq_of_mem_set hg' with h1 | h1
        · exact h.each g' h1
        · subst h1
          refine ⟨by simp, fun i hi => ?_⟩
          rw [hhead]
          rcases List.mem_append.1 hi with h2 | h2
          · exact hge.2 i h2
          · rw [List.mem_singleton] at h2; subst h2
            rw [dayI_nat]; omega
      · simp only [List.length_set] at hj ⊢
        rw [hgetD, hgetD]; exact h.chain j hj
      · simp only [List.length_set] at hj ⊢
        rw [hgetD]; exact h.op j hj
end Go.Proofs.Ytkifajabiggfmaa
end
section
set_option linter.unusedSimpArgs false
set_option linter.unusedVariables false
namespace Go.Proofs.Ytkifajabiggfmaa
set_option linter.unusedSimpArgs false
set_option linter.unusedVariables false
open Go.Bx
theorem down_q {m s S : Int} (hm : 0 ≤ m) (hs : 0 ≤ s) (hS : 0 < S) (hsS : s ≤ S) (h4 : m ≤ 4000000000000000000) : downR m s S = (m * s / S, 0) := by
  obtain ⟨M, rfl⟩ : ∃ A : Nat, m = (A : Int) := ⟨m.toNat, by omega⟩
  obtain ⟨T, rfl⟩ : ∃ A : Nat, s = (A : Int) := ⟨s.toNat, by omega⟩
  obtain ⟨K, rfl⟩ : ∃ A : Nat, S = (A : Int) := ⟨S.toNat, by omega⟩
  have hle : M * T / K ≤ M := by
    have h1 : M * T ≤ M * K := Nat.mul_le_mul_left M (by omega)
    have h2 := Nat.div_le_div_right (c := K) h1
    rwa [Nat.mul_div_cancel M (by omega)] at h2
  rw [downR, ofR_nat M T K (by omega), if_neg (by omega)]
  simp only [upD, Bool.false_eq_true, if_false, Nat.add_zero]
  rw [if_neg (by omega)]
  simp
def dealQ (m S : Int) : Int → List Int → List Int
  | _, [] => []
  | n, p :: r => (m * (n + p) / S - m * n / S) :: dealQ m S (n + p) r
theorem quo_le {m s t S : Int} (hm : 0 ≤ m) (hS : 0 < S) (h : s ≤ t) : m * s / S ≤ m * t / S :=
  Int.ediv_le_ediv hS (Int.mul_le_mul_of_nonneg_left h hm)
theorem quo_nn {m s S : Int} (hm : 0 ≤ m) (hS : 0 < S) (h : 0 ≤ s) : 0 ≤ m * s / S :=
  Int.ediv_nonneg (Int.mul_nonneg hm h) (by omega)
theorem quo_top {m s S : Int} (hm : 0 ≤ m) (hS : 0 < S) (h : s ≤ S) : m * s / S ≤ m := by
  have := quo_le hm hS h
  rwa [Int.mul_ediv_cancel m (by omega)] at this
theorem deal2_eq {m S : Int} (hm : 0 ≤ m) (hS : 0 < S) (h4 : m ≤ 4000000000000000000) : ∀ (l : List Int) (n : Int), 0 ≤ n → (∀ x, x ∈ l → 0 ≤ x) → n + l.sum ≤ S →
    deal2 m S (m * n / S) (psums n l) = dealQ m S n l
  | [], _, _, _, _ => rfl
  | p :: r, n, hn, hx, hs => by
    have hp := hx p (by simp)
    have hr := sum_nonneg (l := r) (fun x h => hx x (by simp [h]))
    rw [List.sum_cons] at hs
    have h1 := quo_nn hm hS hn
    have h2 := quo_le hm hS (show n ≤ n + p by omega)
    have h3 := quo_top hm hS (show n + p ≤ S by omega)
    rw [psums, deal2, dealQ, down_q hm (by omega) hS (by omega) h4, deal2_eq hm hS h4 r (n + p) (by omega) (fun x h => hx x (by simp [h])) (by omega)]
    simp only
    rw [wI (by omega)]
structure SOk (m : Int) (l : List Int) : Prop where
  m0 : 0 ≤ m
  m4 : m ≤ 4000000000000000000
  n2 : l.length ≤ 2000
  nn : ∀ x, x ∈ l → 0 ≤ x
  S0 : 0 < l.sum
  S4 : l.sum ≤ 4000000000000000000
theorem split_ok {m : Int} {l : List Int} (h : SOk m l) : splitR m l = (dealQ m l.sum 0 l, 0) := by
  have := h.m0; have := h.m4; have := h.n2; have := h.S0; have := h.S4
  have e := deal2_eq h.m0 h.S0 h.m4 l 0 (by omega) h.nn (by omega)
  rw [Int.mul_zero, Int.zero_ediv] at e
  rw [splitR, if_neg (by omega), if_neg (any_nonneg h.nn), if_neg (by omega), if_neg (by omega), e]
theorem split_inv {m : Int} {l : List Int} (h : (splitR m l).2 = 0) : SOk m l := by
  unfold splitR at h
  split at h
  · cases h
  split at h
  · cases h
  rename_i h1 h2
  have hnn : ∀ x, x ∈ l → 0 ≤ x := by
    intro x hx
    by_cases h3 : x < 0
    · exact absurd (any_neg hx h3) h2
    · omega
  have := sum_nonneg hnn
  split at h
  · cases h
  split at h
  · cases h
  exact ⟨by omega, by omega, by omega, hnn, by omega, by omega⟩
theorem split_bad {m : Int} {l : List Int} (h : (splitR m l).2 ≠ 0) : (splitR m l).1 = [] := by
  unfold splitR at h ⊢
  split
  · rfl
  split
  · rfl
  split
  · rfl
  split
  · rfl
  · rename_i h1 h2 h3 h4; simp [h1, h2, h3, h4] at h
end Go.Proofs.Ytkifajabiggfmaa
end
section
set_option linter.unusedSimpArgs false
set_option linter.unusedVariables false
namespace Go.Proofs.Ytkifajabiggfmaa
set_option linter.unusedSimpArgs false
set_option linter.unusedVariables false
open Go.Bx
set_option maxRecDepth 10000
def ev0 (x : Ls) : Ls := { x with ev := 0 }
def tE (t : Tr) : Tr := { t with kind := 3 }
def tL (t : Tr) : Tr := { t with kind := 2 }
theorem right_EL (t : Tr) : rightT (tE t) = rightT (tL t) := by
  unfold rightT tE tL
  simp only
  rfl
theorem takes_EL (t : Tr) (x : Ls) : takesT (tE t) x = takesT (tL t) x := by unfold takesT; rw [right_EL]; rfl
theorem high_EL (t : Tr) : highT (tE t) = highT (tL t) := by unfold highT; rw [right_EL]; rfl
theorem part_EL (t : Tr) (a : Int) : partT (tE t) a = partT (tL t) a := by unfold partT; rw [high_EL]; rfl
theorem room_EL (t : Tr) : roomT (tE t) = roomT (tL t) := by unfold roomT; rw [high_EL]; rfl
def sgl (t : Tr) : Nat → List Ls → List (List Int)
  | _, [] => []
  | k, x :: r => if takesT t x = true then [(k : Int)] :: sgl t (k + 1) r else sgl t (k + 1) r
theorem evRun_sgl (t : Tr) : ∀ (r : List Ls) (k : Nat) (s : EvS), (∀ x, x ∈ r → x.ev = 0) → (evRun t k r s).G = s.G ++ sgl t k r
  | [], _, _, _ => by simp [evRun, sgl]
  | x :: r, k, s, h => by
    have h0 := h x (by simp)
    rw [evRun, evRun_sgl t r (k + 1) _ (fun y hy => h y (by simp [hy])), sgl, evStep]
    by_cases ht : takesT t x = true
    · rw [if_pos ht, if_neg (by rw [h0]; simp), if_pos ht]; simp
    · rw [if_neg ht, if_neg ht]
theorem split_one {b a : Int} (h0 : 0 ≤ b) (h1 : b ≤ a) (h2 : 0 < a) (h4 : a ≤ 4000000000000000000) : splitR b [a] = ([b], 0) := by
  have ok : SOk b [a] := ⟨h0, by omega, by simp, by simp; omega, by simpa using h2, by simpa using h4⟩
  rw [split_ok ok]
  simp only [dealQ, List.sum_cons, List.sum_nil, Int.add_zero, Int.zero_add, Int.mul_zero, Int.zero_ediv, Int.sub_zero]
  rw [Int.mul_ediv_cancel _ (by omega)]
theorem split_zero (b : Int) : (splitR b [0]).1 = [] ∨ b < 0 := by
  by_cases h : (splitR b [0]).2 = 0
  · have := (split_inv h).S0; simp at this
  · exact .inl (split_bad h)
theorem set_zero : ∀ (l : List Int) (k : Nat) (b : Int), k < l.length → (l.set k b).take (k + 1) = l.take k ++ [b] ∧ (l.set k b).drop (k + 1) = l.drop (k + 1)
  | [], _, _, h => by simp at h
  | a :: r, 0, b, _ => by simp
  | a :: r, k + 1, b, h => by
    have := set_zero r k b (by simpa using h)
    simp [this.1, this.2]
theorem bears_alone (t : Tr) (all : List Ls) (hx : ∀ x, x ∈ all → lossX x = true) : ∀ (r : List Ls) (k : Nat) (left : Int) (out : List Int), all.drop k = r → 0 ≤ left → left ≤ 101000000000000000 → out.length = all.length → (∀ j, k ≤ j → j < all.length → out.getD j 0 = 0) →
    bearsF t all left (sgl t k r) out = out.take k ++ dealT t left r
  | [], k, left, out, hd, _, _, hl, _ => by
    have hk : all.length ≤ k := by
      have := congrArg List.length hd
      rw [List.length_drop, List.length_nil] at this; omega
    rw [sgl, bearsF, dealT, List.append_nil, List.take_of_length_le (by omega)]
  | x :: r, k, left, out, hd, h0, h1, hl, hz => by
    have hk : k < all.length := by
      have := congrArg List.length hd
      rw [List.length_drop, List.length_cons] at this; omega
    obtain ⟨x', hd', hg, hxm, -⟩ := drop_at hk
    rw [hd] at hd'
    injection hd' with e1 e2
    subst e1
    have hxx := (lossX_iff.1 (hx x hxm)).2.2.2.2
    have hp := part_bounds t (amt := x.amt) hxx.1 (by omega)
    have hzk := hz k (Nat.le_refl _) hk
    rw [sgl, dealT]
    by_cases ht : takesT t x = true
    · rw [if_pos ht, if_pos ht, bearsF]
      have ha : amtsT all [(k : Int)] = [x.amt] := by simp only [amtsT, List.map_cons, List.map_nil, Int.toNat_natCast]; rw [hg]
      have hs : [x.amt].sum = x.amt := by simp
      rw [ha, hs]
      have hw : IntKind.i64.wrap (left - min (partT t x.amt) left) = left - min left (partT t x.amt) := by rw [wI (by omega)]; omega
      rw [hw, show min (partT t x.amt) left = min left (partT t x.amt) by omega]
      by_cases hpos : 0 < x.amt
      · rw [split_one (b := min left (partT t x.amt)) (by omega) (by omega) hpos (by omega)]
        simp only [putAll, Int.toNat_natCast]
        obtain ⟨s1, s2⟩ := set_zero out k (min left (partT t x.amt)) (by omega)
        rw [bears_alone t all hx r (k + 1) _ _ e2.symm (by omega) (by omega) (by rw [List.length_set]; exact hl) (fun j h1 h2 => by
          rw [List.getD_eq_getElem?_getD, List.getElem?_set_ne (by omega), ← List.getD_eq_getElem?_getD]; exact hz j (by omega) h2), s1]
        simp
      · have hx0 : x.amt = 0 := by omega
        have hp0 : min left (partT t x.amt) = 0 := by omega
        rw [hp0, hx0]
        have hsz : (splitR 0 [0]).1 = [] := (split_zero 0).resolve_right (by omega)
        rw [hsz]
        have hpa : putAll out [(k : Int)] [] = out := by simp [putAll]
        rw [hpa, bears_alone t all hx r (k + 1) _ _ e2.symm (by omega) (by omega) hl (fun j h1 h2 => hz j (by omega) h2)]
        have : out.take (k + 1) = out.take k ++ [0] := by
          rw [List.take_add_one, List.getElem?_eq_getElem (by omega)]
          rw [List.getD_eq_getElem?_getD, List.getElem?_eq_getElem (by omega), Option.getD_some] at hzk
          rw [hzk]; rfl
        rw [this]; simp
    · rw [if_neg ht, if_neg ht, bears_alone t all hx r (k + 1) _ _ e2.symm h0 h1 hl (fun j h1 h2 => hz j (by omega) h2)]
      have : out.take (k + 1) = out.take k ++ [0] := by
        rw [List.take_add_one, List.getElem?_eq_getElem (by omega)]
        rw [List.getD_eq_getElem?_getD, List.getElem?_eq_getElem (by omega), Option.getD_some] at hzk
        rw [hzk]; rfl
      rw [this]; simp
theorem deal_EL (t : Tr) : ∀ (l : List Ls) (left : Int), dealT (tE t) left l = dealT (tL t) left l
  | [], _ => rfl
  | x :: r, left => by rw [dealT, dealT, takes_EL, part_EL, deal_EL t r, deal_EL t r]
theorem alone_eq (t : Tr) (l : List Ls) : bearsE (tE t) (l.map ev0) = bearsT (tL t) (l.map ev0) := by
  rw [bearsE, bearsT]
  have e1 : ((tE t).kind != 3) = false := rfl
  have e2 : ((tL t).kind != 2) = false := rfl
  rw [e1, e2, right_EL, Bool.false_or, Bool.or_false]
  by_cases h1 : (!(rightT (tL t)) || (l.map ev0).any (fun x => !(lossX x))) = true
  · rw [if_pos h1, if_pos h1]
  · rw [if_neg h1, if_neg h1]
    by_cases h2 : 2000 < (l.map ev0).length
    · rw [if_pos h2, if_pos (by omega)]
    · rw [if_neg h2, if_neg (by omega)]
      have hX : ∀ x, x ∈ l.map ev0 → lossX x = true := fun x hx => by
        simp only [Bool.or_eq_true, not_or, Bool.not_eq_true] at h1
        have := List.any_eq_false.1 h1.2 x hx
        simpa using this
      have hev : eventsT (tE t) (l.map ev0) = sgl (tE t) 0 (l.map ev0) := by
        rw [eventsT, evRun_sgl _ _ _ _ (fun x hx => by obtain ⟨y, -, rfl⟩ := List.mem_map.1 hx; rfl)]; simp
      have hroom := (roomT_eq (tE t)).2
      rw [hev, bears_alone (tE t) (l.map ev0) hX (l.map ev0) 0 _ _ rfl hroom.1 hroom.2 (by simp) (fun j h1 h2 => by
        rw [List.getD_eq_getElem?_getD, List.getElem?_replicate]; split <;> rfl), List.take_zero, List.nil_append, deal_EL, room_EL]
set_option maxHeartbeats 4000000 in
theorem lAlone (t : Tr) (l : List Ls) (hl9 : l.length ≤ 9223372036854775807) : Ctr Try.prog 9 [vT t, .d (slX l)] [] (.d (.bool true)) [] [] := by
  have c0 := few l
  by_cases hl : l.length ≤ 150
  · have e1 : decide (l.length ≤ 150) = true := decide_eq_true hl
    rw [e1] at c0
    have hml : (l.map ev0).length = l.length := List.length_map _
    have c1 := sBears (tE t) (l.map ev0) (by omega)
    have c2 := s15 (tL t) (l.map ev0) (by omega)
    rw [alone_eq] at c1
    have c3 := s17 (bearsT (tL t) (l.map ev0)).1 (bearsT (tL t) (l.map ev0)).1 (by have := bearsE_len (tE t) (l.map ev0); rw [alone_eq] at this; omega)
    have d1 : ((bearsT (tL t) (l.map ev0)).2 == (bearsT (tL t) (l.map ev0)).2) = true := by simp
    generalize bearsT (tL t) (l.map ev0) = R at *
    simp only [vT, cT, tE, tL, slX, slK, decide_true] at c0 c1 c2 c3
    refine ctr_pure Try.func9 ok9 rfl cc9 cr9 Try.ntmps9 (by simp) rfl rfl ?_; intro c hP hfn; simp only [kc9, vT, cT, slX, vcb, ↓evSo_some, ↓reduceIte, reduceCtorEq, seval]
    repeat' first
        | (first
            | refine TR.p hP (by first | exact c0) (by repeat' first | exact trivial | (intro _; assumption) | apply And.intro) ?_
            | refine TR.gp hP rfl (fun _ => by first | exact c0) (fun _ => by repeat' first | exact trivial | (intro _; assumption) | apply And.intro) ?_
            | refine TR.pv hP rfl (by first | exact c0) trivial (by repeat' first | exact trivial | (intro _; assumption) | apply And.intro) ?_
           try simp only [vcb, ↓evSo_some, ↓reduceIte, reduceCtorEq, seval])
        | refine And.intro (fun h => ?_) (fun h => ?_)
        | refine And.intro (by first | omega | (simp only [maxLen, decide_eq_true_eq, decide_eq_false_iff_not] at *; omega)) ?_
        | (refine TR.aslO rfl rfl rfl rfl trivial (Nat.le_of_ble_eq_true rfl) ?_
           try simp only [vcb, ↓evSo_some, ↓reduceIte, reduceCtorEq, seval])
        | refine And.intro trivial ?_
        | refine And.intro rfl ?_
        | fail
    refine vcC.loop (X := Nat) (fun k => ⟨[(2, .own 2 0), (5, .osl 1000), (17, .d (slX l)), (18, .d (.int .i64 l.length)), (19, .d (.int .i64 k))],
        [(2, .fix (cT t)), (1000, .row 26 5 ((l.take k).map ev0).length (fun i => (fun x : Ls => [.int .i64 x.cl, .int .i64 x.ev, .int .i64 x.day, .int .i64 x.per, .int .i64 x.amt]) (((l.take k).map ev0).getD i default)))], [2, 1000]⟩)
      (fun k => k ≤ l.length) (fun k => l.length - k) 0 (Nat.zero_le _)
      ((Wk.row0 (s := 5) (k := 1000) (e := 26) (sz := 5) (f' := fun _ => []) rfl rfl (by simp)).trans (Wk.of _ hfn rfl (by simp only [slX, enb, vcb, ↓evSo_some, ↓reduceIte, reduceCtorEq, seval]) (by simp only [cT, List.take_zero, List.map_nil, enb, vcb, ↓evSo_some, ↓reduceIte, reduceCtorEq, seval]; exact OLe.row rfl (fun i hi => absurd hi (Nat.not_lt_zero i))))) ?_
    rintro k hk
    have hal : ((l.take k).map ev0).length = k := by rw [List.length_map, List.length_take]; omega
    by_cases hlt : k < l.length
    · obtain ⟨x, hd, hg, -, hat⟩ := drop_at hlt
      have b0 : decide ((k : Int) < (l.length : Int)) = true := decide_eq_true (by omega)
      have htk : (l.take (k + 1)).map ev0 = (l.take k).map ev0 ++ [ev0 x] := by rw [List.take_add_one, hat]; simp
      have hbytes : (((l.take k).map ev0).length + 1) * 40 ≤ 140737488355328 := by omega
      have hmx : ((l.take k).map ev0).length + 1 ≤ maxLen := by simp only [maxLen]; omega
      have ewk : IntKind.i64.wrap ((k : Int) + 1) = ((k + 1 : Nat) : Int) := wS (by omega)
      simp only [slX, cT, hg, b0, ewk, ↓impFT, ↓impTF, vcb, ↓evSo_some, ↓reduceIte, reduceCtorEq, seval]
      repeat' first
          | refine And.intro (fun h => ?_) (fun h => ?_)
          | refine And.intro (by first | omega | (simp only [maxLen, decide_eq_true_eq, decide_eq_false_iff_not] at *; omega)) ?_
          | (refine TR.aslO rfl rfl rfl rfl trivial (Nat.le_of_ble_eq_true rfl) ?_
             try simp only [hg, b0, ewk, ↓impFT, ↓impTF, vcb, ↓evSo_some, ↓reduceIte, reduceCtorEq, seval])
          | refine And.intro trivial ?_
          | refine And.intro rfl ?_
          | fail
      exact lopK.on (k + 1) hlt (by omega) ((Wk.sw 27 1000 _ hfn (by simp) (by simp)).trans (Wk.of _ hfn rfl (by simp only [slX, enb, vcb, ↓evSo_some, ↓reduceIte, reduceCtorEq, seval]) (by simp only [cT, htk, enb, vcb, ↓evSo_some, ↓reduceIte, reduceCtorEq, seval]; exact OLe.app1 (cells := fun x : Ls => [.int .i64 x.cl, .int .i64 x.ev, .int .i64 x.day, .int .i64 x.per, .int .i64 x.amt]) (fun i hi => by simp only [if_pos hi]) (by simp [ev0, litRow]))))
    · have hkl : k = l.length := by omega
      have b0 : decide ((k : Int) < (l.length : Int)) = false := decide_eq_false (by omega)
      have htk : l.take k = l := by rw [hkl, List.take_length]
      simp only [slX, cT, b0, htk, ↓impFT, ↓impTF, vcb, ↓evSo_some, ↓reduceIte, reduceCtorEq, seval]
      repeat' first
          | refine And.intro (fun h => ?_) (fun h => ?_)
          | refine And.intro (by first | omega | (simp only [maxLen, decide_eq_true_eq, decide_eq_false_iff_not] at *; omega)) ?_
          | (refine TR.aslO rfl rfl rfl rfl trivial (Nat.le_of_ble_eq_true rfl) ?_
             try simp only [d1, vcb, ↓evSo_some, ↓reduceIte, reduceCtorEq, seval])
          | refine And.intro trivial ?_
          | refine And.intro rfl ?_
          | fail
      refine TR.wk _ (Wk.pub 1000 rfl) ?_
      simp only [vcb, ↓evSo_some, ↓reduceIte, reduceCtorEq, seval]
      repeat' first
          | (first
              | refine TR.p hP (by first | exact c1 | exact c2 | exact c3 | exact lAlive) (by repeat' first | exact trivial | (intro _; assumption) | apply And.intro) ?_
              | refine TR.gp hP rfl (fun _ => by first | exact c1 | exact c2 | exact c3 | exact lAlive) (fun _ => by repeat' first | exact trivial | (intro _; assumption) | apply And.intro) ?_
              | refine TR.pv hP rfl (by first | exact c1 | exact c2 | exact c3 | exact lAlive) trivial (by repeat' first | exact trivial | (intro _; assumption) | apply And.intro) ?_
             try simp only [d1, vcb, ↓evSo_some, ↓reduceIte, reduceCtorEq, seval])
          | refine And.intro (fun h => ?_) (fun h => ?_)
          | refine And.intro (by first | omega | (simp only [maxLen, decide_eq_true_eq, decide_eq_false_iff_not] at *; omega)) ?_
          | (refine TR.aslO rfl rfl rfl rfl trivial (Nat.le_of_ble_eq_true rfl) ?_
             try simp only [d1, vcb, ↓evSo_some, ↓reduceIte, reduceCtorEq, seval])
          | refine And.intro trivial ?_
          | refine And.intro rfl ?_
          | fail
      exact RetK.pure (by simp only [rs9, rsb, vcb, ↓evSo_some, ↓reduceIte, reduceCtorEq, seval]) (by (simp only [rs9, rsb, vcb, ↓evSo_some, ↓reduceIte, reduceCtorEq, seval, enb, vcb, ↓evSo_some, ↓reduceIte, reduceCtorEq, seval]) <;> (first | simp))
  · have e1 : decide (l.length ≤ 150) = false := decide_eq_false hl
    rw [e1] at c0
    simp only [slX] at c0
    refine ctr_pure Try.func9 ok9 rfl cc9 cr9 Try.ntmps9 (by simp) rfl rfl ?_; intro c hP hfn; simp only [kc9, vT, cT, slX, vcb, ↓evSo_some, ↓reduceIte, reduceCtorEq, seval]
    repeat' first
        | (first
            | refine TR.p hP (by first | exact c0 | exact lAlive) (by repeat' first | exact trivial | (intro _; assumption) | apply And.intro) ?_
            | refine TR.gp hP rfl (fun _ => by first | exact c0 | exact lAlive) (fun _ => by repeat' first | exact trivial | (intro _; assumption) | apply And.intro) ?_
            | refine TR.pv hP rfl (by first | exact c0 | exact lAlive) trivial (by repeat' first | exact trivial | (intro _; assumption) | apply And.intro) ?_
           try simp only [vcb, ↓evSo_some, ↓reduceIte, reduceCtorEq, seval])
        | refine And.intro (fun h => ?_) (fun h => ?_)
        | refine And.intro (by first | omega | (simp only [maxLen, decide_eq_true_eq, decide_eq_false_iff_not] at *; omega)) ?_
        | (refine TR.aslO rfl rfl rfl rfl trivial (Nat.le_of_ble_eq_true rfl) ?_
           try simp only [vcb, ↓evSo_some, ↓reduceIte, reduceCtorEq, seval])
        | refine And.intro trivial ?_
        | refine And.intro rfl ?_
        | fail
    exact RetK.pure (by simp only [rs9, rsb, vcb, ↓evSo_some, ↓reduceIte, reduceCtorEq, seval]) (by (simp only [rs9, rsb, vcb, ↓evSo_some, ↓reduceIte, reduceCtorEq, seval, enb, vcb, ↓evSo_some, ↓reduceIte, reduceCtorEq, seval]) <;> (first | simp))
end Go.Proofs.Ytkifajabiggfmaa
end
section
set_option linter.unusedSimpArgs false
set_option linter.unusedVariables false
namespace Go.Proofs.Ytkifajabiggfmaa
set_option linter.unusedSimpArgs false
set_option linter.unusedVariables false
open Go.ChangeShapes Go.WideShapes Go.ChangeAt Go.RowKit Go.Bx
set_option maxRecDepth 100000
theorem eventAlone_lifted (os : Os) (started : os.Started) (H : Type) (enc : TypeId × Value → H) :
    ReturnsInHanded {} Try.checked os 9 .any (Rows.eventAloneSpec.pre6 enc Try.prog Try.f9 Rows.eventAloneRow.domain false) (Rows.eventAloneSpec.post enc Try.prog Try.f9 false true false false) := by
  refine returnsInHanded_of_change (C := Try.checked) Try.own started (by kernel_rfl) Try.func9
    (ChangeSpec.witness6 (enc := enc) (C := Try.checked) false ⟨#[], #[.agg #[.int .i64 0, .int .i64 0, .int .i64 0, .int .i64 0, .int .i64 0, .int .i64 0, .int .i64 0, .int .i64 0, .int .i64 0], .slice none 0 0], []⟩ 8 (by kernel_rfl) (by kernel_rfl) (by kernel_rfl) (by kernel_rfl)) ?_
  intro W base args ds gs before hval hW _ _
  refine law_calls (tb := 4) Try.laidOut (by kernel_rfl) (by kernel_rfl) Try.underlying4 rfl ?_ ?_ W base args ds gs before hval hW
  · intro ds hd
    match ds, hd with
    | [_, _], _ => rfl
  · intro W base args ds p hval hA
    rw [show Try.f9.params.toList = [36, 22] by kernel_rfl] at hA
    obtain ⟨v0, v1, d0, d1, p0, p1, rfl, rfl, _, h0, h1⟩ := trodAll_two hA
    obtain ⟨t, tk, r0⟩ := treaty_reads.agg (by kernel_rfl) (hval 0 36 v0 rfl rfl) h0
    obtain ⟨l, lk, r1⟩ := losses_reads.cell (by kernel_rfl) (hval 1 22 v1 rfl rfl) h1
    exact ⟨[vT t, .d (slX l)], rfl, rel2 r0 r1, lAlone t l lk.1⟩
theorem eventAlone_holds : Rows.EventAloneSaid :=
  OpenClaim.holds_of_wide 9 Try.f9 rfl rfl rfl rfl rfl rfl rfl ⟨rfl, rfl, rfl, rfl, rfl⟩ rfl rfl rfl rfl rfl (by kernel_rfl) Try.func9 (by kernel_rfl)
    (of_decide_eq_true (by kernel_rfl)) (by unfold Func.isWrapper; first | (rw [if_pos (by decide +kernel)]; kernel_rfl) | (rw [if_neg (by decide +kernel)]; exact ⟨rfl, rfl⟩))
    (fun os started H enc _ => eventAlone_lifted os started H enc)
end Go.Proofs.Ytkifajabiggfmaa
end
