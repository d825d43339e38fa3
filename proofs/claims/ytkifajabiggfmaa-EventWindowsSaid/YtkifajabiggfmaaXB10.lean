import Derived.Test.YtkifajabiggfmaaXB9
section
set_option linter.unusedSimpArgs false
set_option linter.unusedVariables false
namespace Go.Proofs.Ytkifajabiggfmaa
set_option linter.unusedSimpArgs false
set_option linter.unusedVariables false
open Go.Bx
set_option maxRecDepth 10000
theorem impFT {A : Prop} : (false = true → A) = True := eq_true (fun h => by cases h)
theorem impTF {A : Prop} : (true = false → A) = True := eq_true (fun h => by cases h)
def hdI (g : List Int) : Int := g.getD 0 0
structure WI (L : List Ls) (days : Int) (k : Nat) (s : GrS) : Prop where
  flat : s.G.flatten = ((ordQ L).take k).map (fun k : Nat => (k : Int))
  each : ∀ g, g ∈ s.G → 0 < g.length ∧ ∀ i, i ∈ g → dayI L (hdI g) ≤ dayI L i ∧ dayI L i < dayI L (hdI g) + days
  chain : ∀ j, j + 1 < s.G.length → days ≤ dayI L (hdI (s.G.getD (j + 1) [])) - dayI L (hdI (s.G.getD j []))
  op : ∀ j, j + 1 = s.G.length → s.op = dayI L (hdI (s.G.getD j []))
theorem WI.step {L : List Ls} {days : Int} {k : Nat} {s : GrS} (h : WI L days k s) (hd : 1 ≤ days ∧ days ≤ 1099511627776) (hx : ∀ x, x ∈ L → 1 ≤ x.day ∧ x.day ≤ 292194) (hk : k < L.length) : WI L days (k + 1) (grStep L days ((ordQ L).getD k 0) s) := by
  have hlen := ordQ_len L
  have hko : k < (ordQ L).length := by omega
  have hday : ∀ j, j < L.length → 1 ≤ dayQ L j ∧ dayQ L j ≤ 292194 := fun j hj => by
    unfold dayQ; rw [List.getD_eq_getElem?_getD, List.getElem?_eq_getElem hj]; exact hx _ (List.getElem_mem hj)
  obtain ⟨y, hy⟩ : ∃ y, (ordQ L).getD k 0 = y := ⟨_, rfl⟩
  have hyl : y < L.length := by rw [← hy]; exact ordQ_lt hk
  have hye : (ordQ L)[k] = y := by rw [← hy, List.getD_eq_getElem?_getD, List.getElem?_eq_getElem hko]; rfl
  have hfl : ((ordQ L).take (k + 1)).map (fun k : Nat => (k : Int)) = ((ordQ L).take k).map (fun k : Nat => (k : Int)) ++ [(y : Int)] := by
    rw [List.take_add_one, List.getElem?_eq_getElem hko, hye]; simp
  have hle : ∀ i, i ∈ s.G.flatten → 1 ≤ dayI L i ∧ dayI L i ≤ dayQ L y := by
    intro i hi
    rw [h.flat] at hi
    obtain ⟨a, ha, rfl⟩ := List.mem_map.1 hi
    obtain ⟨j, hj⟩ := List.mem_iff_getElem?.1 ha
    have hjk : j < k := by have := (List.getElem?_eq_some_iff.1 hj).1; rw [List.length_take] at this; omega
    rw [List.getElem?_take_of_lt hjk] at hj
    have hjl := (List.getElem?_eq_some_iff.1 hj).1
    have hje := (List.getElem?_eq_some_iff.1 hj).2
    have hp := List.pairwise_iff_getElem.1 (ordQ_ok L).1 j k hjl hko hjk
    rw [hye, hje] at hp
    have := (lessQ_false L y a).1 hp
    have hal : a < L.length := by rw [← hje]; have := ordQ_lt (L := L) (k := j) (by omega); rwa [List.getD_eq_getElem?_getD, List.getElem?_eq_getElem hjl] at this
    have := hday a hal
    rw [dayI_nat]; omega
  have hyd := hday y hyl
  rw [hy]
  have hm : max 1 days = days := by omega
  by_cases h0 : s.G.length = 0
  · have hG : s.G = [] := List.eq_nil_of_length_eq_zero h0
    rw [grStep, if_pos (.inl h0)]
    refine ⟨?_, fun g hg => ?_, fun j hj => ?_, fun j hj => ?_⟩
    · simp only; rw [hfl, ← h.flat, hG]; simp
    · simp only [hG, List.nil_append, List.mem_singleton] at hg; subst hg
      refine ⟨by simp, fun i hi => ?_⟩
      rw [List.mem_singleton] at hi; subst hi
      simp only [hdI, List.getD_cons_zero]; omega
    · simp [hG] at hj
    · simp only [hG, List.nil_append, List.length_singleton] at hj ⊢
      have : j = 0 := by omega
      subst this; simp [hdI, dayI_nat]
  · obtain ⟨n, hn⟩ : ∃ n, s.G.length = n + 1 := ⟨s.G.length - 1, by omega⟩
    have hop := h.op n (by omega)
    have hgn : s.G[n]? = some (s.G.getD n []) := by rw [List.getD_eq_getElem?_getD, List.getElem?_eq_getElem (by omega)]; rfl
    have hgm : s.G.getD n [] ∈ s.G := List.mem_of_getElem? hgn
    obtain ⟨g, hg⟩ : ∃ g, s.G.getD n [] = g := ⟨_, rfl⟩
    rw [hg] at hop hgn hgm
    have hge := h.each g hgm
    have hhd : hdI g ∈ g := by unfold hdI; rw [List.getD_eq_getElem?_getD, List.getElem?_eq_getElem hge.1]; exact List.getElem_mem hge.1
    have hho := hle (hdI g) (List.mem_flatten.2 ⟨g, hgm, hhd⟩)
    have hw : IntKind.i64.wrap (dayQ L y - s.op) = dayQ L y - s.op := wI (by omega)
    have hGe : s.G = s.G.take n ++ [g] := by
      have := List.take_append_drop n s.G
      rw [List.drop_eq_getElem_cons (by omega), (List.getElem?_eq_some_iff.1 hgn).2, List.drop_eq_nil_of_le (by omega)] at this
      exact this.symm
    by_cases hc : days ≤ dayQ L y - s.op
    · rw [grStep, if_pos (.inr (by rw [hm, hw]; exact hc))]
      refine ⟨?_, fun g' hg' => ?_, fun j hj => ?_, fun j hj => ?_⟩
      · simp only; rw [hfl, ← h.flat]; simp
      · rcases List.mem_append.1 hg' with h1 | h1
        · exact h.each g' h1
        · rw [List.mem_singleton] at h1; subst h1
          refine ⟨by simp, fun i hi => ?_⟩
          rw [List.mem_singleton] at hi; subst hi
          simp only [hdI, List.getD_cons_zero]; omega
      · simp only [List.length_append, List.length_singleton] at hj
        by_cases hj1 : j + 1 < s.G.length
        · have := h.chain j hj1
          rw [List.getD_eq_getElem?_getD, List.getD_eq_getElem?_getD, List.getElem?_append_left hj1, List.getElem?_append_left (by omega), ← List.getD_eq_getElem?_getD, ← List.getD_eq_getElem?_getD]; exact this
        · have hjn : j = n := by omega
          subst hjn
          rw [List.getD_eq_getElem?_getD, List.getD_eq_getElem?_getD, List.getElem?_append_right (by omega), List.getElem?_append_left (by omega), hgn]
          rw [hop] at hc
          simp [hn, hdI, dayI_nat] at hc ⊢; omega
      · simp only [List.length_append, List.length_singleton] at hj
        rw [List.getD_eq_getElem?_getD, List.getElem?_append_right (by omega)]
        have : j - s.G.length = 0 := by omega
        simp [this, hdI, dayI_nat]
    · rw [grStep, if_neg (by rw [hm, hw]; omega)]
      have hgd : s.G.getD (s.G.length - 1) [] = g := by rw [show s.G.length - 1 = n by omega]; exact hg
      have hhead : hdI (g ++ [(y : Int)]) = hdI g := by unfold hdI; rw [List.getD_eq_getElem?_getD, List.getElem?_append_left hge.1, ← List.getD_eq_getElem?_getD]
      rw [hgd, show s.G.length - 1 = n by omega]
      have hset : s.G.set n (g ++ [(y : Int)]) = s.G.take n ++ [g ++ [(y : Int)]] := by
        conv => lhs; rw [hGe]
        have : (s.G.take n).length = n := by rw [List.length_take]; omega
        rw [List.set_append_right _ _ (by omega), this]; simp
      have hgetD : ∀ j, hdI ((s.G.set n (g ++ [(y : Int)])).getD j []) = hdI (s.G.getD j []) := fun j => by
        by_cases e : j = n
        · subst e; rw [List.getD_eq_getElem?_getD, List.getElem?_set_self (by omega), hg]; exact hhead
        · rw [List.getD_eq_getElem?_getD, List.getElem?_set_ne (fun g => e g.symm), ← List.getD_eq_getElem?_getD]
      refine ⟨?_, fun g' hg' => ?_, fun j hj => ?_, fun j hj => ?_⟩
      · simp only; rw [hfl, ← h.flat, hset]
        conv => rhs; rw [hGe]
        simp
      · simp only at hg'
        rcases List.mem_or_eq_of_mem_set hg' with h1 | h1
        · exact h.each g' h1
        · subst h1
          refine ⟨by simp, fun i hi => ?_⟩
          rw [hhead]
          rcases List.mem_append.1 hi with h2 | h2
          · exact hge.2 i h2
          · rw [List.mem_singleton] at h2; subst h2
            rw [dayI_nat]; omega
      · simp only [List.length_set] at hj ⊢
        rw [hgetD, hgetD]; exact h.chain j hj
      · simp only [List.length_set] at hj ⊢
        rw [hgetD]; exact h.op j hj
theorem group_win (L : List Ls) (days : Int) (hd : 1 ≤ days ∧ days ≤ 1099511627776) (hx : ∀ x, x ∈ L → 1 ≤ x.day ∧ x.day ≤ 292194) : WI L days L.length (grRun L days L.length) := by
  have key : ∀ k, k ≤ L.length → WI L days k (grRun L days k) := by
    intro k
    induction k with
    | zero => intro _; exact ⟨rfl, fun g hg => by simp [grRun] at hg, fun j hj => by simp [grRun] at hj, fun j hj => by simp [grRun] at hj⟩
    | succ k ih => intro hk; exact (ih (by omega)).step hd hx hk
  exact key _ (Nat.le_refl _)
theorem flat_nodup (L : List Ls) : (((ordQ L).map (fun k : Nat => (k : Int)))).Nodup ∧ ∀ i, i ∈ (ordQ L).map (fun k : Nat => (k : Int)) → 0 ≤ i ∧ i < L.length := by
  have h := (ordQ_ok L).2
  refine ⟨?_, fun i hi => ?_⟩
  · have : (ordQ L).Nodup := h.nodup_iff.2 List.nodup_range
    rw [List.nodup_iff_pairwise_ne, List.pairwise_map]
    exact (List.nodup_iff_pairwise_ne.1 this).imp fun {a b} hab e => hab (by omega)
  · obtain ⟨k, hk, rfl⟩ := List.mem_map.1 hi
    have := List.mem_range.1 (h.mem_iff.1 hk)
    omega
theorem metB {F : List Int} {n : Int} {i : Nat} (hn : 0 ≤ n) : (if i = n.toNat then putD [.bool (decide (((n.toNat : Nat) : Int) ∈ F))] 0 [.bool true] else [.bool (decide ((i : Int) ∈ F))] : List D) = [.bool (decide ((i : Int) ∈ F ++ [n]))] := by
  by_cases e : i = n.toNat
  · have : (i : Int) = n := by omega
    rw [if_pos e]; simp [putD, this]
  · have : ¬ (i : Int) = n := by omega
    rw [if_neg e]; simp [this]
def lastW (L : List Ls) (days : Int) (G : List (List Int)) (j : Nat) : Int := if j = 0 then -days else dayI L (hdI (G.getD (j - 1) []))
set_option maxHeartbeats 4000000 in
theorem lWindows (l : List Ls) (days : Int) : Ctr Try.prog 4 [.d (slX l), .d (.int .i64 days)] [] (.d (.bool true)) [] [] := by
  have c0 := few l
  simp only [slX] at c0
  refine ctr_pure Try.func4 ok4 rfl cc4 cr4 Try.ntmps4 (by simp) rfl rfl ?_; intro c hP hfn; simp only [kc4, slX, vcb, ↓evSo_some, ↓reduceIte, reduceCtorEq, seval]
  repeat' first
      | (first
          | refine TR.p hP (by first | exact c0) (by repeat' first | exact trivial | (intro _; assumption) | apply And.intro) ?_
          | refine TR.gp hP rfl (fun _ => by first | exact c0) (fun _ => by repeat' first | exact trivial | (intro _; assumption) | apply And.intro) ?_
          | refine TR.pv hP rfl (by first | exact c0) trivial (by repeat' first | exact trivial | (intro _; assumption) | apply And.intro) ?_
         try simp only [vcb, ↓evSo_some, ↓reduceIte, reduceCtorEq, seval])
      | refine And.intro (fun h => ?_) (fun h => ?_)
      | refine And.intro (by first | omega | (simp only [maxLen, decide_eq_true_eq, decide_eq_false_iff_not] at *; omega)) ?_
      | (refine TR.aslO rfl rfl rfl rfl trivial (Nat.le_of_ble_eq_true rfl) ?_
         try simp only [vcb, ↓evSo_some, ↓reduceIte, reduceCtorEq, seval])
      | refine And.intro trivial ?_
      | refine And.intro rfl ?_
      | fail
  · refine TR.p hP lAlive (by repeat' first | exact trivial | (intro _; assumption) | apply And.intro) ?_
    simp only [vcb, ↓evSo_some, ↓reduceIte, reduceCtorEq, seval]
    exact RetK.pure (by simp only [rs4, rsb, vcb, ↓evSo_some, ↓reduceIte, reduceCtorEq, seval]) (by (simp only [rs4, rsb, vcb, ↓evSo_some, ↓reduceIte, reduceCtorEq, seval, enb, vcb, ↓evSo_some, ↓reduceIte, reduceCtorEq, seval]) <;> (first | rfl))
  have hf : l.length ≤ 150 ∧ 1 ≤ days ∧ days ≤ 1099511627776 := by simp at h; omega
  clear h c0
  refine vcC.loop (X := Nat) (fun k => ⟨[(0, .d (slX l)), (1, .d (.int .i64 days)), (26, .d (slX l)), (27, .d (.int .i64 l.length)), (28, .d (.int .i64 k))], [], []⟩)
    (fun k => k ≤ l.length ∧ ∀ x, x ∈ l.take k → 1 ≤ x.day ∧ x.day ≤ 292194) (fun k => l.length - k) 0 ⟨Nat.zero_le _, by simp⟩ (Wk.of _ hfn rfl (by simp only [slX, enb, vcb, ↓evSo_some, ↓reduceIte, reduceCtorEq, seval]) (by simp only [enb, vcb, ↓evSo_some, ↓reduceIte, reduceCtorEq, seval])) ?_
  rintro k ⟨hk, hx⟩
  simp only [slX, vcb, ↓evSo_some, ↓reduceIte, reduceCtorEq, seval]
  refine ⟨fun h1 => ?_, fun h1 => ?_⟩
  · have hlt : k < l.length := by have := of_decide_eq_true h1; omega
    obtain ⟨x, hd, hg, -, hat⟩ := drop_at hlt
    simp only [hg, vcb, ↓evSo_some, ↓reduceIte, reduceCtorEq, seval]
    repeat' first
        | (first
            | refine TR.p hP (by first | exact lAlive) (by repeat' first | exact trivial | (intro _; assumption) | apply And.intro) ?_
            | refine TR.gp hP rfl (fun _ => by first | exact lAlive) (fun _ => by repeat' first | exact trivial | (intro _; assumption) | apply And.intro) ?_
            | refine TR.pv hP rfl (by first | exact lAlive) trivial (by repeat' first | exact trivial | (intro _; assumption) | apply And.intro) ?_
           try simp only [hg, vcb, ↓evSo_some, ↓reduceIte, reduceCtorEq, seval])
        | refine And.intro (fun h => ?_) (fun h => ?_)
        | refine And.intro (by first | omega | (simp only [maxLen, decide_eq_true_eq, decide_eq_false_iff_not] at *; omega)) ?_
        | (refine TR.aslO rfl rfl rfl rfl trivial (Nat.le_of_ble_eq_true rfl) ?_
           try simp only [hg, vcb, ↓evSo_some, ↓reduceIte, reduceCtorEq, seval])
        | refine And.intro trivial ?_
        | refine And.intro rfl ?_
        | fail
    · exact RetK.pure (by simp only [rs4, rsb, vcb, ↓evSo_some, ↓reduceIte, reduceCtorEq, seval]) (by (simp only [rs4, rsb, vcb, ↓evSo_some, ↓reduceIte, reduceCtorEq, seval, enb, vcb, ↓evSo_some, ↓reduceIte, reduceCtorEq, seval]) <;> (first | rfl))
    · refine lopK.on (k + 1) ⟨hlt, fun y hy => ?_⟩ (by omega) (Wk.of _ hfn rfl (by simp only [slX, enb, vcb, ↓evSo_some, ↓reduceIte, reduceCtorEq, seval]; exact wS (by omega)) (by simp only [enb, vcb, ↓evSo_some, ↓reduceIte, reduceCtorEq, seval]))
      rw [List.take_add_one, hat] at hy
      rcases List.mem_append.1 hy with h2 | h2
      · exact hx y h2
      · simp at h2; subst h2; simp at h; omega
  have hkl : k = l.length := by have := of_decide_eq_false h1; omega
  rw [hkl, List.take_length] at hx
  clear h1 hk hkl
  have hW := group_win l days hf.2 hx
  have hgl := groupT_len l days
  have hfn2 := flat_nodup l
  have c1 := sGroup l days hf.1
  have hflat : (groupT l days).flatten = (ordQ l).map (fun k : Nat => (k : Int)) := by
    have := hW.flat
    rw [← ordQ_len l, List.take_length, ordQ_len] at this
    exact this
  have hfl : (groupT l days).flatten.length = l.length := by rw [hflat, List.length_map, ordQ_len]
  have hea := hW.each
  have hch := hW.chain
  have hG0 : (grRun l days l.length).G = groupT l days := rfl
  rw [hG0] at hea hch
  rw [← hflat] at hfn2
  clear hW hG0 hflat
  generalize groupT l days = G at *
  simp only [slX] at c1
  have hmk : l.length ≤ maxLen := by simp only [maxLen]; omega
  repeat' first
      | (first
          | refine TR.p hP (by first | exact c1) (by repeat' first | exact trivial | (intro _; assumption) | apply And.intro) ?_
          | refine TR.gp hP rfl (fun _ => by first | exact c1) (fun _ => by repeat' first | exact trivial | (intro _; assumption) | apply And.intro) ?_
          | refine TR.pv hP rfl (by first | exact c1) trivial (by repeat' first | exact trivial | (intro _; assumption) | apply And.intro) ?_
         try simp only [vcb, ↓evSo_some, ↓reduceIte, reduceCtorEq, seval])
      | refine And.intro (fun h => ?_) (fun h => ?_)
      | refine And.intro (by first | omega | (simp only [maxLen, decide_eq_true_eq, decide_eq_false_iff_not] at *; omega)) ?_
      | (refine TR.aslO rfl rfl rfl rfl trivial (Nat.le_of_ble_eq_true rfl) ?_
         try simp only [vcb, ↓evSo_some, ↓reduceIte, reduceCtorEq, seval])
      | refine And.intro trivial ?_
      | refine And.intro rfl ?_
      | fail
  clear c1
  have hGf : ∀ j, j ≤ G.length → (G.take j).flatten.length ≤ l.length := fun j hj => by
    rw [← hfl]
    conv => rhs; rw [← List.take_append_drop j G]
    rw [List.flatten_append, List.length_append]; omega
  refine vcC.loop (X := Nat) (fun j => ⟨[(0, .d (slX l)), (1, .d (.int .i64 days)), (7, .osl 44), (8, .d (.int .i64 (lastW l days G j))), (9, .d (.int .i64 (G.take j).flatten.length)), (49, gD G), (50, .d (.int .i64 G.length)), (51, .d (.int .i64 j))],
      [(44, .row 4 1 l.length (fun i => [.bool (decide ((i : Int) ∈ (G.take j).flatten))]))], [44]⟩)
    (fun j => j ≤ G.length) (fun j => G.length - j) 0 (Nat.zero_le _) (Wk.of _ hfn rfl (by simp only [slX, gD, lastW, enb, vcb, ↓evSo_some, ↓reduceIte, reduceCtorEq, seval]; exact ⟨by rw [wI (by omega)]; omega, rfl⟩) (by simp only [enb, vcb, ↓evSo_some, ↓reduceIte, reduceCtorEq, seval]; exact OLe.row rfl (fun i hi => by simp))) ?_
  rintro j hj
  by_cases hlt : j < G.length
  · obtain ⟨g, hd, hg, hgm, hat⟩ := drop_at hlt
    have hge := hea g hgm
    have hin : ∀ i, i ∈ g → 0 ≤ i ∧ i < (l.length : Int) := fun i hi => hfn2.2 i (List.mem_flatten.2 ⟨g, hgm, hi⟩)
    have hhd : hdI g ∈ g := by unfold hdI; rw [List.getD_eq_getElem?_getD, List.getElem?_eq_getElem hge.1]; exact List.getElem_mem hge.1
    have hhi := hin _ hhd
    have hday : ∀ i, 0 ≤ i → i < (l.length : Int) → 1 ≤ dayI l i ∧ dayI l i ≤ 292194 := fun i h0 h1 => by
      have hlt : i.toNat < l.length := by omega
      unfold dayI; rw [List.getD_eq_getElem?_getD, List.getElem?_eq_getElem hlt]; exact hx _ (List.getElem_mem hlt)
    have hhy := hday _ hhi.1 hhi.2
    have hlast : days ≤ dayI l (hdI g) - lastW l days G j ∧ -1099511627776 ≤ lastW l days G j ∧ lastW l days G j ≤ 292194 := by
      unfold lastW
      by_cases e : j = 0
      · rw [if_pos e]; omega
      · rw [if_neg e]
        have h2 := hch (j - 1) (by omega)
        rw [show j - 1 + 1 = j by omega] at h2
        have e2 : G.getD j [] = g := hg []
        rw [e2] at h2
        have h3 : G.getD (j - 1) [] ∈ G := by rw [List.getD_eq_getElem?_getD, List.getElem?_eq_getElem (by omega)]; exact List.getElem_mem (by omega)
        have h4 := hea _ h3
        have h5 : hdI (G.getD (j - 1) []) ∈ G.getD (j - 1) [] := by
          unfold hdI; generalize G.getD (j - 1) [] = g2 at *
          rw [List.getD_eq_getElem?_getD, List.getElem?_eq_getElem h4.1]; exact List.getElem_mem h4.1
        have h6 := hfn2.2 _ (List.mem_flatten.2 ⟨_, h3, h5⟩)
        have h7 := hday _ h6.1 h6.2
        omega
    have hlw : lastW l days G (j + 1) = dayI l (hdI g) := by
      unfold lastW
      have e2 : G.getD j [] = g := hg []
      rw [if_neg (by omega), Nat.add_sub_cancel, e2]
    generalize lastW l days G j = last at *
    have hgs : (G.take (j + 1)).flatten = (G.take j).flatten ++ g := by rw [List.take_add_one, hat]; simp
    have hnd : ∀ m, m < g.length → ∀ x, g[m]? = some x → ¬ (x ∈ (G.take j).flatten ++ g.take m) := by
      intro m hm x hx9 hmem
      have h2 := hfn2.1
      rw [← List.take_append_drop (j + 1) G, List.flatten_append, hgs, List.append_assoc] at h2
      rw [← List.take_append_drop m g, List.drop_eq_getElem_cons hm, (List.getElem?_eq_some_iff.1 hx9).2] at h2
      rw [List.append_assoc, ← List.append_assoc] at h2
      have h3 := (List.nodup_append.1 h2).2.2 x hmem x (by simp)
      exact h3 rfl
    have hfl2 : (G.take j).flatten.length + g.length ≤ l.length := by have := hGf (j + 1) hlt; rw [hgs, List.length_append] at this; exact this
    generalize hF : (G.take j).flatten = F at *
    have ewj : IntKind.i64.wrap ((j : Int) + 1) = ((j + 1 : Nat) : Int) := wS (by omega)
    have hdq : ∀ i : Int, (l.getD i.toNat default).day = dayI l i := fun i => rfl
    have hg0 : (g.getD 0 0) = hdI g := rfl
    have hgl0 : ((g.length : Int) == 0) = false := by rw [beq_eq_false_iff_ne]; omega
    have hgl1 : (0 : Int) < (g.length : Int) := by omega
    have hgl2 := hge.1
    have d0 : decide ((j : Int) < (G.length : Int)) = true := decide_eq_true (by omega)
    have d1 : decide (hdI g < 0) = false := decide_eq_false (by omega)
    have d2 : decide (hdI g ≥ (l.length : Int)) = false := decide_eq_false (by omega)
    have ew1 : IntKind.i64.wrap (dayI l (hdI g) - last) = dayI l (hdI g) - last := wI (by omega)
    have d3 : decide (dayI l (hdI g) - last < days) = false := decide_eq_false (by omega)
    simp only [slX, gD, nestD, cI, hg, hdq, hg0, hgl0, d0, d1, d2, ew1, d3, vcb, ↓evSo_some, ↓reduceIte, reduceCtorEq, seval]
    repeat' first
        | refine And.intro (fun h => ?_) (fun h => ?_)
        | refine And.intro (by first | omega | (simp only [maxLen, decide_eq_true_eq, decide_eq_false_iff_not] at *; omega)) ?_
        | (refine TR.aslO rfl rfl rfl rfl trivial (Nat.le_of_ble_eq_true rfl) ?_
           try simp only [nestD, cI, hg, hdq, hg0, hgl0, d1, d2, ew1, d3, vcb, ↓evSo_some, ↓reduceIte, reduceCtorEq, seval])
        | refine And.intro trivial ?_
        | refine And.intro rfl ?_
        | fail
    generalize ho : dayI l (hdI g) = o at *
    refine vcC.loop (X := Nat) (fun m => ⟨[(0, .d (slX l)), (1, .d (.int .i64 days)), (7, .osl 44), (8, .d (.int .i64 o)), (9, .d (.int .i64 (F ++ g.take m).length)), (49, gD G), (50, .d (.int .i64 G.length)), (51, .d (.int .i64 j)), (92, .d (slK .i64 g)), (93, .d (.int .i64 g.length)), (94, .d (.int .i64 m))],
        [(44, .row 4 1 l.length (fun i => [.bool (decide ((i : Int) ∈ F ++ g.take m))]))], [44]⟩)
      (fun m => m ≤ g.length) (fun m => g.length - m) 0 (Nat.zero_le _) (Wk.of _ hfn rfl (by simp only [slX, gD, nestD, cI, List.take_zero, List.append_nil, enb, vcb, ↓evSo_some, ↓reduceIte, reduceCtorEq, seval]) (by simp only [List.take_zero, List.append_nil, enb, vcb, ↓evSo_some, ↓reduceIte, reduceCtorEq, seval])) ?_
    rintro m hm
    by_cases hlm : m < g.length
    · obtain ⟨x, hd2, hgx, hxm, hat2⟩ := drop_at hlm
      have hxb := hin x hxm
      have hxd := hge.2 x hxm
      have hnx := hnd m hlm x hat2
      have htk : g.take (m + 1) = g.take m ++ [x] := by rw [List.take_add_one, hat2]; rfl
      have hle : (F ++ g.take m).length ≤ 150 := by rw [List.length_append, List.length_take]; omega
      generalize hF2 : F ++ g.take m = F2 at *
      have hF3 : F ++ g.take (m + 1) = F2 ++ [x] := by rw [htk, ← List.append_assoc, hF2]
      have hFl : (F2 ++ [x]).length = F2.length + 1 := by simp
      have hnx2 : decide (((x.toNat : Nat) : Int) ∈ F2) = false := by rw [decide_eq_false_iff_not, show ((x.toNat : Nat) : Int) = x by omega]; exact hnx
      have b0 : decide ((m : Int) < (g.length : Int)) = true := decide_eq_true (by omega)
      have b1 : decide (x < 0) = false := decide_eq_false (by omega)
      have b2 : decide (x ≥ (l.length : Int)) = false := decide_eq_false (by omega)
      have b3 : decide (dayI l x < o) = false := decide_eq_false (by omega)
      have ew2 : IntKind.i64.wrap (o + days) = o + days := wI (by omega)
      have b4 : decide (dayI l x ≥ o + days) = false := decide_eq_false (by omega)
      have ewm : IntKind.i64.wrap ((m : Int) + 1) = ((m + 1 : Nat) : Int) := wS (by omega)
      have ewn : IntKind.i64.wrap ((F2.length : Int) + 1) = ((F2.length + 1 : Nat) : Int) := wS (by omega)
      simp only [slX, gD, hgx, hdq, hnx2, b0, b1, b2, b3, ew2, b4, ewm, ewn, vcb, ↓evSo_some, ↓reduceIte, reduceCtorEq, seval]
      repeat' first
          | refine And.intro (fun h => ?_) (fun h => ?_)
          | refine And.intro (by first | omega | (simp only [maxLen, decide_eq_true_eq, decide_eq_false_iff_not] at *; omega)) ?_
          | (refine TR.aslO rfl rfl rfl rfl trivial (Nat.le_of_ble_eq_true rfl) ?_
             try simp only [hgx, hdq, hnx2, b0, b1, b2, b3, ew2, b4, ewm, ewn, vcb, ↓evSo_some, ↓reduceIte, reduceCtorEq, seval])
          | refine And.intro trivial ?_
          | refine And.intro rfl ?_
          | fail
      exact lopK.on (m + 1) hlm (by omega) (Wk.of _ hfn rfl (by simp only [slX, gD, hF3, hFl, enb, vcb, ↓evSo_some, ↓reduceIte, reduceCtorEq, seval]) (by simp only [hF3, enb, vcb, ↓evSo_some, ↓reduceIte, reduceCtorEq, seval]; exact OLe.row rfl fun i hi => metB hxb.1))
    · have hmg : m = g.length := by omega
      have b0 : decide ((m : Int) < (g.length : Int)) = false := decide_eq_false (by omega)
      have htg : g.take m = g := by rw [hmg, List.take_length]
      simp only [slX, gD, b0, htg, vcb, ↓evSo_some, ↓reduceIte, reduceCtorEq, seval]
      exact lopK.on (j + 1) hlt (by omega) (Wk.of _ hfn rfl (by simp only [slX, gD, hlw, hgs, ewj, enb, vcb, ↓evSo_some, ↓reduceIte, reduceCtorEq, seval]) (by simp only [hgs, enb, vcb, ↓evSo_some, ↓reduceIte, reduceCtorEq, seval]))
  · have hjg : j = G.length := by omega
    have d0 : decide ((j : Int) < (G.length : Int)) = false := decide_eq_false (by omega)
    have hfin : (((G.take j).flatten.length : Int) == (l.length : Int)) = true := by rw [beq_iff_eq, hjg, List.take_length, hfl]
    simp only [slX, gD, d0, hfin, ↓impFT, ↓impTF, vcb, ↓evSo_some, ↓reduceIte, reduceCtorEq, seval]
    repeat' first
        | (first
            | refine TR.p hP (by first | exact lAlive) (by repeat' first | exact trivial | (intro _; assumption) | apply And.intro) ?_
            | refine TR.gp hP rfl (fun _ => by first | exact lAlive) (fun _ => by repeat' first | exact trivial | (intro _; assumption) | apply And.intro) ?_
            | refine TR.pv hP rfl (by first | exact lAlive) trivial (by repeat' first | exact trivial | (intro _; assumption) | apply And.intro) ?_
           try simp only [hfin, vcb, ↓evSo_some, ↓reduceIte, reduceCtorEq, seval])
        | refine And.intro (fun h => ?_) (fun h => ?_)
        | refine And.intro (by first | omega | (simp only [maxLen, decide_eq_true_eq, decide_eq_false_iff_not] at *; omega)) ?_
        | (refine TR.aslO rfl rfl rfl rfl trivial (Nat.le_of_ble_eq_true rfl) ?_
           try simp only [hfin, vcb, ↓evSo_some, ↓reduceIte, reduceCtorEq, seval])
        | refine And.intro trivial ?_
        | refine And.intro rfl ?_
        | fail
    exact RetK.pure (by simp only [rs4, rsb, vcb, ↓evSo_some, ↓reduceIte, reduceCtorEq, seval]) (by (simp only [rs4, rsb, vcb, ↓evSo_some, ↓reduceIte, reduceCtorEq, seval, enb, vcb, ↓evSo_some, ↓reduceIte, reduceCtorEq, seval]) <;> (first | rfl))
end Go.Proofs.Ytkifajabiggfmaa
end
section
set_option linter.unusedSimpArgs false
set_option linter.unusedVariables false
namespace Go.Proofs.Ytkifajabiggfmaa
set_option linter.unusedSimpArgs false
set_option linter.unusedVariables false
open Go.ChangeShapes Go.WideShapes Go.ChangeAt Go.RowKit Go.Bx
set_option maxRecDepth 100000
theorem eventWindows_lifted (os : Os) (started : os.Started) (H : Type) (enc : TypeId × Value → H) :
    ReturnsInHanded {} Try.checked os 4 .any (Rows.eventWindowsSpec.pre6 enc Try.prog Try.f4 Rows.eventWindowsRow.domain false) (Rows.eventWindowsSpec.post enc Try.prog Try.f4 false true false false) := by
  refine returnsInHanded_of_change (C := Try.checked) Try.own started (by kernel_rfl) Try.func4
    (ChangeSpec.witness6 (enc := enc) (C := Try.checked) false ⟨#[], #[.slice none 0 0, .int .i64 0], []⟩ 8 (by kernel_rfl) (by kernel_rfl) (by kernel_rfl) (by kernel_rfl)) ?_
  intro W base args ds gs before hval hW _ _
  refine law_calls (tb := 4) Try.laidOut (by kernel_rfl) (by kernel_rfl) Try.underlying4 rfl ?_ ?_ W base args ds gs before hval hW
  · intro ds hd
    match ds, hd with
    | [_, _], _ => rfl
  · intro W base args ds p hval hA
    rw [show Try.f4.params.toList = [22, 3] by kernel_rfl] at hA
    obtain ⟨v0, v1, d0, d1, p0, p1, rfl, rfl, _, h0, h1⟩ := trodAll_two hA
    obtain ⟨l, lk, r0⟩ := losses_reads.cell (by kernel_rfl) (hval 0 22 v0 rfl rfl) h0
    obtain ⟨days, daysk, r1⟩ := int_reads.cell (by kernel_rfl) (hval 1 3 v1 rfl rfl) h1
    exact ⟨[.d (slX l), .d (.int .i64 days)], rfl, rel2 r0 r1, lWindows l days⟩
theorem eventWindows_holds : Rows.EventWindowsSaid :=
  OpenClaim.holds_of_wide 4 Try.f4 rfl rfl rfl rfl rfl rfl rfl ⟨rfl, rfl, rfl, rfl, rfl⟩ rfl rfl rfl rfl rfl (by kernel_rfl) Try.func4 (by kernel_rfl)
    (of_decide_eq_true (by kernel_rfl)) (by unfold Func.isWrapper; first | (rw [if_pos (by decide +kernel)]; kernel_rfl) | (rw [if_neg (by decide +kernel)]; exact ⟨rfl, rfl⟩))
    (fun os started H enc _ => eventWindows_lifted os started H enc)
end Go.Proofs.Ytkifajabiggfmaa
end
