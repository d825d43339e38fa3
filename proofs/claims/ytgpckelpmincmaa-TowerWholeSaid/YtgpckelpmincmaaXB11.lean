import Derived.Test.YtgpckelpmincmaaXB10
section
set_option linter.unusedSimpArgs false
set_option linter.unusedVariables false
namespace Go.Proofs.Ytgpckelpmincmaa
set_option linter.unusedSimpArgs false
set_option linter.unusedVariables false
open Go.Bx
set_option maxRecDepth 10000
theorem VLe.slD {full full' : Bool} {sz n : Nat} {f f' : Nat → List D} (hb : full' = true → full = true) (hf : ∀ i, i < n → (f i).length = (f' i).length ∧ ∀ (j : Nat) (x y : D), (f i)[j]? = some x → (f' i)[j]? = some y → VLe (.d x) (.d y)) : VLe (.d (.sl full sz n f)) (.d (.sl full' sz n f')) := by
  intro β E w v hv
  cases hv with
  | d _ _ hv =>
    refine .d _ _ ?_
    generalize hN : n = m at hv ⊢
    cases hv with
    | nil _ _ _ _ => exact .nil _ _ _ _
    | sl _ _ _ _ b off c g hc hfu hl hcell hrel =>
      subst hN
      refine .sl _ _ _ _ b off c g hc (fun h => hfu (hb h)) (fun i hi => by rw [← (hf i hi).1]; exact hl i hi) hcell (fun i j hi hj y hy => ?_)
      have hlt : j < (f i).length := by rw [hl i hi]; exact hj
      have h1 := hrel i j hi hj _ (List.getElem?_eq_getElem hlt)
      have h2 := (hf i hi).2 j _ y (List.getElem?_eq_getElem hlt) hy
      exact rel_d (h2 β E w _ (.d _ _ h1))
def exT : List Tr := [⟨2, 2, 1, 100, 0, 100, 50, 0, 1⟩, ⟨1, 1, 1, 100, 5000, 0, 0, 0, 1⟩]
def exL : List Ls := [⟨1, 0, 5, 0, 260⟩]
theorem ex_of : ofT exT exL = ([[(1, 130), (2, 30)]], [100], 0) := by
  have h1 : mayT exT exL = 0 := by decide +kernel
  have h2 : refT exT exL = ([100], [[(1, 130), (2, 30)]]) := by decide +kernel
  rw [ofT, if_neg (by rw [h1]; simp), tower_ref, h2]
theorem ex_order : orderT exT = [1, 0] := by rw [order_eq]; decide +kernel
theorem ex_sums : sumsT exT [[(1, 130), (2, 30)]] = [30, 130] := by decide +kernel
def eT : V := .d (.sl true 9 2 (litRow 9 [.int .i64 2, .int .i64 2, .int .i64 1, .int .i64 100, .int .i64 0, .int .i64 100, .int .i64 50, .int .i64 0, .int .i64 1, .int .i64 1, .int .i64 1, .int .i64 1, .int .i64 100, .int .i64 5000, .int .i64 0, .int .i64 0, .int .i64 0, .int .i64 1]))
def eL : V := .d (.sl true 5 1 (litRow 5 [.int .i64 1, .int .i64 0, .int .i64 5, .int .i64 0, .int .i64 260]))
def eC : V := .d (.sl true 1 1 (litRow 1 [.sl true 2 2 (litRow 2 [.int .i64 1, .int .i64 130, .int .i64 2, .int .i64 30])]))
def eI1 : V := .d (.sl true 1 1 (litRow 1 [.int .i64 100]))
def eI2 : V := .d (.sl true 1 2 (litRow 1 [.int .i64 1, .int .i64 0]))
def eI3 : V := .d (.sl true 1 2 (litRow 1 [.int .i64 30, .int .i64 130]))
theorem vle_exT : VLe eT (.d (slT exT)) :=
  VLe.sl rfl (fun _ => rfl) (fun h => by cases h) fun i hi => by
    have : i = 0 ∨ i = 1 := by omega
    rcases this with rfl | rfl <;> rfl
theorem vle_exL : VLe eL (.d (slX exL)) :=
  VLe.sl rfl (fun _ => rfl) (fun h => by cases h) fun i hi => by
    have : i = 0 := by omega
    subst this; rfl
theorem vle_exC : VLe eC (.d (gC [[(1, 130), (2, 30)]])) := by
  refine VLe.slD (fun h => by cases h) fun i hi => ?_
  have : i = 0 := by omega
  subst this
  refine ⟨rfl, fun j x y hx hy => ?_⟩
  have hj : j = 0 := by
    have := (List.getElem?_eq_some_iff.1 hy).1
    simp [nestD] at this; exact this
  subst hj
  simp [litRow] at hx
  simp [nestD] at hy
  subst hx; subst hy
  exact VLe.sl rfl (fun _ => rfl) (fun h => by cases h) fun i hi => by
    have : i = 0 ∨ i = 1 := by omega
    rcases this with rfl | rfl <;> rfl
set_option maxHeartbeats 2000000 in
theorem lAwake : Ctr Try.prog 9 [] [] (.d (.bool true)) [] [] := by
  have c1 := sTOf exT exL (by decide) (by decide)
  rw [ex_of] at c1
  have c1 := c1.arg (args := [eT, eL]) ⟨vle_exT, vle_exL, trivial⟩
  have c2 := sOrder exT (by decide)
  rw [ex_order] at c2
  have c2 := c2.arg (args := [eT]) ⟨vle_exT, trivial⟩
  have c3 := sSums exT [[(1, 130), (2, 30)]] (by decide) (by decide) (by decide)
  rw [ex_sums] at c3
  have c3 := c3.arg (args := [eT, .d (gC [[(1, 130), (2, 30)]])]) ⟨vle_exT, VLe.refl _, trivial⟩
  have c4 := (rSameC [[(1, 130), (2, 30)]] [[(1, 130), (2, 30)]] (by decide) (by decide) (by decide) (by decide)).arg (args := [.d (gC [[(1, 130), (2, 30)]]), eC]) ⟨VLe.refl _, vle_exC, trivial⟩
  have c5 := (s17 [100] [100] (by decide)).arg (args := [.d (slK .i64 [100]), eI1]) ⟨VLe.refl _, LitI.vle (by repeat constructor) (by rfl), trivial⟩
  have c6 := (s17 [1, 0] [1, 0] (by decide)).arg (args := [.d (slK .i64 [1, 0]), eI2]) ⟨VLe.refl _, LitI.vle (by repeat constructor) (by rfl), trivial⟩
  have c7 := (s17 [30, 130] [30, 130] (by decide)).arg (args := [.d (slK .i64 [30, 130]), eI3]) ⟨VLe.refl _, LitI.vle (by repeat constructor) (by rfl), trivial⟩
  simp only [gC, slK, eT, eL, eC, eI1, eI2, eI3, List.length_cons, List.length_nil, Nat.zero_add, Nat.reduceAdd, decide_true] at c1 c2 c3 c4 c5 c6 c7
  refine ctr_pure Try.func9 ok9 rfl cc9 cr9 Try.ntmps9 (by simp) rfl rfl ?_; intro c hP hfn; simp only [kc9, vcb, ↓evSo_some, ↓reduceIte, reduceCtorEq, seval]
  repeat' first
      | (first
          | refine TR.p hP (by first | exact c1 | exact c2 | exact c3 | exact c4 | exact c5 | exact c6 | exact c7) (by repeat' first | exact trivial | (intro _; assumption) | apply And.intro) ?_
          | refine TR.gp hP rfl (fun _ => by first | exact c1 | exact c2 | exact c3 | exact c4 | exact c5 | exact c6 | exact c7) (fun _ => by repeat' first | exact trivial | (intro _; assumption) | apply And.intro) ?_
          | refine TR.pv hP rfl (by first | exact c1 | exact c2 | exact c3 | exact c4 | exact c5 | exact c6 | exact c7) trivial (by repeat' first | exact trivial | (intro _; assumption) | apply And.intro) ?_
         try simp only [vcb, ↓evSo_some, ↓reduceIte, reduceCtorEq, seval])
      | refine And.intro (fun h => ?_) (fun h => ?_)
      | refine And.intro (by first | omega | (simp only [maxLen, decide_eq_true_eq, decide_eq_false_iff_not] at *; omega)) ?_
      | (refine TR.aslO rfl rfl rfl rfl trivial (Nat.le_of_ble_eq_true rfl) ?_
         try simp only [vcb, ↓evSo_some, ↓reduceIte, reduceCtorEq, seval])
      | refine And.intro trivial ?_
      | refine And.intro rfl ?_
      | fail
  exact RetK.pure (by simp only [rs9, rsb, vcb, ↓evSo_some, ↓reduceIte, reduceCtorEq, seval]) (by (simp only [rs9, rsb, vcb, ↓evSo_some, ↓reduceIte, reduceCtorEq, seval, enb, vcb, ↓evSo_some, ↓reduceIte, reduceCtorEq, seval]) <;> (first | simp))
end Go.Proofs.Ytgpckelpmincmaa
end
section
set_option linter.unusedSimpArgs false
set_option linter.unusedVariables false
namespace Go.Proofs.Ytgpckelpmincmaa
set_option linter.unusedSimpArgs false
set_option linter.unusedVariables false
open Go.Bx
set_option maxRecDepth 10000
def amtI (id : Int) (g : List (Int × Int)) : Int := ((g.filter (fun p => p.1 == id)).map (·.2)).sum
def tot (id : Int) (G : List (List (Int × Int))) : Int := (G.map (amtI id)).sum
theorem amtI_snoc (id : Int) (g : List (Int × Int)) (p : Int × Int) : amtI id (g ++ [p]) = amtI id g + (if p.1 = id then p.2 else 0) := by
  unfold amtI
  rw [List.filter_append, List.map_append, List.sum_append]
  congr 1
  by_cases h : p.1 = id
  · rw [if_pos h]; simp [h]
  · rw [if_neg h]; simp [h]
theorem amtI_none {id : Int} {g : List (Int × Int)} (h : ∀ p, p ∈ g → p.1 ≠ id) : amtI id g = 0 := by
  unfold amtI
  rw [List.filter_eq_nil_iff.2 (fun p hp => by simpa using h p hp)]; rfl
theorem sum_le_of : ∀ {a b : List Int}, a.length = b.length → (∀ j, j < a.length → a.getD j 0 ≤ b.getD j 0) → a.sum ≤ b.sum
  | [], [], _, _ => Int.le_refl _
  | [], _ :: _, h, _ => by simp at h
  | _ :: _, [], h, _ => by simp at h
  | x :: a, y :: b, h, hj => by
    have h0 := hj 0 (by simp)
    have h1 := sum_le_of (a := a) (b := b) (by simpa using h) (fun j hjl => by simpa using hj (j + 1) (by simpa using hjl))
    simp only [List.getD_cons_zero] at h0
    simp only [List.sum_cons]; omega
theorem map_getD {α : Type} {f : List α → Int} (h0 : f [] = 0) (G : List (List α)) (j : Nat) : (G.map f).getD j 0 = f (G.getD j []) := by
  simp only [List.getD_eq_getElem?_getD, List.getElem?_map]
  cases h : G[j]? with
  | none => simp [h0]
  | some g => rfl
theorem amtI_nil (id : Int) : amtI id [] = 0 := rfl
structure TwI (l : List Ls) (done : List Tr) (s : Sw) : Prop where
  sw : SwI l done.length 0 s
  W : ∀ j, j < l.length → ((s.2.getD j []).map (·.2)).sum + s.1.getD j 0 = (l.getD j default).amt
  P : ∀ j, j < l.length → ∀ p, p ∈ s.2.getD j [] → 0 < p.2 ∧ ∃ t, t ∈ done ∧ t.id = p.1 ∧ takesT t (l.getD j default) = true ∧ (t.kind = 1 → p.2 ≤ (bearsQ t (l.getD j default)).1)
  N : ∀ j, j < l.length → ((s.2.getD j []).map (·.1)).Nodup
  S : ∀ t, t ∈ done → t.kind ≠ 1 → tot t.id s.2 ≤ roomT t
theorem bearsA_q {t : Tr} (h : t.kind = 1) (l : List Ls) {j : Nat} (hj : j < l.length) : (bearsA t l).getD j 0 = (bearsQ t (l.getD j default)).1 := by
  unfold bearsA
  rw [if_neg (by omega), if_neg (by omega)]
  simp only [List.getD_eq_getElem?_getD, List.getElem?_map, List.getElem?_eq_getElem hj, Option.map_some, Option.getD_some]
theorem TwI.step {l rd : List Ls} {done : List Tr} {s : Sw} (h : TwI l done s) (hX : ∀ x, x ∈ l → lossX x = true) (hl : l.length ≤ 2000) {t : Tr} (ht : rightT t = true) (hid : t.id ∉ done.map (·.id)) (hr : RdOk l rd) (h1 : t.kind = 1 → rd = l) :
    TwI l (done ++ [t]) (swe t.id (bearsA t rd) s) := by
  obtain ⟨b1, b2, b3, b4⟩ := rd_bears hX hl hr ht
  have hget := swe_get t.id b1 h.sw.la h.sw.lg
  have hsw := swp_ok t.id b2 b1 h.sw
  have hq : t.kind = 1 → ∀ j, j < l.length → (bearsA t rd).getD j 0 = (bearsQ t (l.getD j default)).1 := fun hk j hj => by rw [h1 hk]; exact bearsA_q hk l hj
  generalize bearsA t rd = b at *
  have hne : ∀ j, j < l.length → ∀ p, p ∈ s.2.getD j [] → p.1 ≠ t.id := fun j hj p hp e => by
    obtain ⟨-, u, hu, hu2, -⟩ := h.P j hj p hp
    exact hid (List.mem_map.2 ⟨u, hu, by rw [hu2, e]⟩)
  refine ⟨by rw [List.length_append, List.length_singleton]; exact hsw, fun j hj => ?_, fun j hj p hp => ?_, fun j hj => ?_, fun u hu hk => ?_⟩
  · obtain ⟨g1, g2⟩ := hget j hj
    have hw := h.W j hj
    have ha := h.sw.am j
    have hb := b2 j
    rw [g1, g2]
    split
    · rw [List.map_append, List.sum_append]
      simp only [List.map_cons, List.map_nil, List.sum_cons, List.sum_nil]; omega
    · omega
  · obtain ⟨g1, g2⟩ := hget j hj
    rw [g2] at hp
    have old : p ∈ s.2.getD j [] → 0 < p.2 ∧ ∃ u, u ∈ done ++ [t] ∧ u.id = p.1 ∧ takesT u (l.getD j default) = true ∧ (u.kind = 1 → p.2 ≤ (bearsQ u (l.getD j default)).1) := fun hp => by
      obtain ⟨q1, u, q2, q3⟩ := h.P j hj p hp
      exact ⟨q1, u, List.mem_append_left _ q2, q3⟩
    split at hp
    · rename_i hm
      rcases List.mem_append.1 hp with hp | hp
      · exact old hp
      · simp only [List.mem_singleton] at hp
        subst hp
        refine ⟨hm, t, by simp, rfl, ?_, fun hk => ?_⟩
        · cases hh : takesT t (l.getD j default) with
          | true => rfl
          | false => have := b3 j hj hh; omega
        · rw [← hq hk j hj]; exact Int.min_le_left _ _
    · exact old hp
  · obtain ⟨g1, g2⟩ := hget j hj
    rw [g2]
    split
    · rw [List.map_append, List.map_cons, List.map_nil, List.nodup_append]
      refine ⟨h.N j hj, by simp, fun a ha c hc => ?_⟩
      simp only [List.mem_singleton] at hc
      subst hc
      obtain ⟨p, hp, rfl⟩ := List.mem_map.1 ha
      exact hne j hj p hp
    · exact h.N j hj
  · have hlen := hsw.lg
    rcases List.mem_append.1 hu with hu | hu
    · have hnu : u.id ≠ t.id := fun e => hid (List.mem_map.2 ⟨u, hu, e⟩)
      refine Int.le_trans (sum_le_of (by rw [List.length_map, List.length_map, hlen, h.sw.lg]) fun j hj => ?_) (h.S u hu hk)
      rw [List.length_map, hlen] at hj
      rw [map_getD (amtI_nil _), map_getD (amtI_nil _), (hget j hj).2]
      split
      · rw [amtI_snoc, if_neg (fun e => hnu e.symm)]; omega
      · exact Int.le_refl _
    · simp only [List.mem_singleton] at hu
      subst hu
      refine Int.le_trans (sum_le_of (by rw [List.length_map, hlen, b1]) fun j hj => ?_) (b4 hk)
      rw [List.length_map, hlen] at hj
      rw [map_getD (amtI_nil _), (hget j hj).2]
      have h0 : amtI u.id (s.2.getD j []) = 0 := amtI_none (hne j hj)
      have hb := b2 j
      split
      · rw [amtI_snoc, if_pos rfl, h0]
        have := Int.min_le_left (b.getD j 0) (s.1.getD j 0); simp only; omega
      · rw [h0]; exact hb
theorem twrT_ok {l : List Ls} (hX : ∀ x, x ∈ l → lossX x = true) (hl : l.length ≤ 2000) : ∀ (r done : List Tr) (s : Sw) (rd : List Ls) (kd : Int), TwI l done s → (∀ t, t ∈ r → rightT t = true) → ((done ++ r).map (·.id)).Nodup → RdOk l rd → (kd = 1 → rd = l) →
    r.Pairwise (fun a b => a.kind ≤ b.kind) → (∀ t, t ∈ r → kd ≤ t.kind) → 1 ≤ kd → TwI l (done ++ r) (twrT l r s rd kd)
  | [], done, s, rd, kd, h, _, _, _, _, _, _, _ => by rw [List.append_nil, twrT]; exact h
  | t :: r, done, s, rd, kd, h, hR, hN, hr, h1, hp, hk, hk1 => by
    rw [twrT]
    have htk := hk t List.mem_cons_self
    have hpw := List.pairwise_cons.1 hp
    have hr' : RdOk l (if t.kind ≠ kd then withX l s.1 else rd) := by
      split
      · exact RdOk.next h.sw
      · exact hr
    have h1' : t.kind = 1 → (if t.kind ≠ kd then withX l s.1 else rd) = l := fun e => by
      have : kd = 1 := by omega
      rw [if_neg (by omega)]; exact h1 this
    have hid : t.id ∉ done.map (·.id) := by
      rw [List.map_append, List.map_cons, List.nodup_append] at hN
      intro hm
      exact hN.2.2 _ hm _ List.mem_cons_self rfl
    have := twrT_ok hX hl r (done ++ [t]) _ _ t.kind (h.step hX hl (hR t List.mem_cons_self) hid hr' h1') (fun u hu => hR u (List.mem_cons_of_mem _ hu)) (by simpa using hN) hr' h1' hpw.2 hpw.1 (by omega)
    simpa using this
theorem dup_iff : ∀ (ts : List Tr) (seen : List Int), dupT seen ts = false ↔ (∀ t, t ∈ ts → t.id ∉ seen) ∧ (ts.map (·.id)).Nodup
  | [], seen => by simp [dupT]
  | t :: r, seen => by
    rw [dupT]
    by_cases h : t.id ∈ seen
    · rw [if_pos h]
      constructor
      · intro e; cases e
      · intro e; exact absurd h (e.1 t List.mem_cons_self)
    · rw [if_neg h, dup_iff r (t.id :: seen), List.map_cons, List.nodup_cons]
      constructor
      · rintro ⟨h1, h2⟩
        refine ⟨fun u hu => ?_, fun hm => ?_, h2⟩
        · rcases List.mem_cons.1 hu with rfl | hu
          · exact h
          · exact fun e => h1 u hu (List.mem_cons_of_mem _ e)
        · obtain ⟨u, hu, e⟩ := List.mem_map.1 hm
          exact h1 u hu (by rw [e]; exact List.mem_cons_self)
      · rintro ⟨h1, h2, h3⟩
        refine ⟨fun u hu hm => ?_, h3⟩
        rcases List.mem_cons.1 hm with e | hm
        · exact h2 (List.mem_map.2 ⟨u, hu, e⟩)
        · exact h1 u (List.mem_cons_of_mem _ hu) hm
theorem sw0_tw {l : List Ls} (hX : ∀ x, x ∈ l → lossX x = true) : TwI l [] (sw0 l) := by
  have hz : ∀ j, (sw0 l).2.getD j [] = [] := fun j => by
    simp only [sw0, List.getD_eq_getElem?_getD, List.getElem?_replicate]; split <;> rfl
  refine ⟨sw0_ok l hX, fun j hj => ?_, fun j hj p hp => ?_, fun j hj => ?_, fun t ht => ?_⟩
  · rw [hz]
    simp only [sw0, List.map_nil, List.sum_nil, Int.zero_add, List.getD_eq_getElem?_getD, List.getElem?_map, List.getElem?_eq_getElem hj, Option.map_some, Option.getD_some]
  · rw [hz] at hp; simp at hp
  · rw [hz]; simp
  · simp at ht
theorem tower_ok {ts : List Tr} {l : List Ls} (h : mayT ts l = 0) : TwI l (ordL ts) (towerT ts l) ∧ (ordL ts).Perm ts := by
  obtain ⟨hR, hX, h1, h2, h3, -⟩ := may_ok h
  have hp := ordL_perm (ts := ts) (fun t ht => right_kind (hR t ht))
  have hnd := ((dup_iff ts []).1 h3).2
  have hR' : ∀ t, t ∈ ordL ts → rightT t = true := fun t ht => hR t (ordL_mem ht)
  have := twrT_ok hX h2 (ordL ts) [] (sw0 l) l 1 (sw0_tw hX) hR' (by simpa using (hp.map (·.id)).nodup_iff.2 hnd) (RdOk.self hX) (fun _ => rfl) (ordL_kinds ts) (fun t ht => by have := right_kind (hR' t ht); omega) (Int.le_refl _)
  rw [towerT_eq]
  exact ⟨by simpa using this, hp⟩
end Go.Proofs.Ytgpckelpmincmaa
end
section
set_option linter.unusedSimpArgs false
set_option linter.unusedVariables false
namespace Go.Proofs.Ytgpckelpmincmaa
set_option linter.unusedSimpArgs false
set_option linter.unusedVariables false
open Go.Bx
set_option maxRecDepth 10000
theorem get_of {l : List Ls} {j : Nat} (hj : j < l.length) (hX : ∀ x, x ∈ l → lossX x = true) : 0 ≤ (l.getD j default).amt ∧ (l.getD j default).amt ≤ 1000000000000000 := by
  have := lossX_iff.1 (hX (l.getD j default) (by rw [List.getD_eq_getElem?_getD, List.getElem?_eq_getElem hj]; exact List.getElem_mem hj))
  omega
theorem pos_take {g : List (Int × Int)} (h : ∀ p, p ∈ g → 0 < p.2) (k : Nat) : 0 ≤ ((g.take k).map (·.2)).sum ∧ ((g.take k).map (·.2)).sum ≤ (g.map (·.2)).sum := by
  have h1 := sum_nonneg (l := (g.take k).map (·.2)) (fun x hx => by
    obtain ⟨p, hp, rfl⟩ := List.mem_map.1 hx
    have := h p (List.mem_of_mem_take hp); omega)
  have h2 := sum_nonneg (l := (g.drop k).map (·.2)) (fun x hx => by
    obtain ⟨p, hp, rfl⟩ := List.mem_map.1 hx
    have := h p (List.mem_of_mem_drop hp); omega)
  have h3 : (g.map (·.2)).sum = ((g.take k).map (·.2)).sum + ((g.drop k).map (·.2)).sum := by rw [← List.sum_append, ← List.map_append, List.take_append_drop]
  omega
set_option maxHeartbeats 4000000 in
theorem lWhole (ts : List Tr) (l : List Ls) : Ctr Try.prog 4 [.d (slT ts), .d (slX l)] [] (.d (.bool true)) [] [] := by
  have cf := rFew ts l
  simp only [slT, slX] at cf
  refine ctr_pure Try.func4 ok4 rfl cc4 cr4 Try.ntmps4 (by simp) rfl rfl ?_; intro c hP hfn; simp only [kc4, slT, slX, vcb, ↓evSo_some, ↓reduceIte, reduceCtorEq, seval]
  repeat' first
      | (first
          | refine TR.p hP (by first | exact lAwake | exact cf) (by repeat' first | exact trivial | (intro _; assumption) | apply And.intro) ?_
          | refine TR.gp hP rfl (fun _ => by first | exact lAwake | exact cf) (fun _ => by repeat' first | exact trivial | (intro _; assumption) | apply And.intro) ?_
          | refine TR.pv hP rfl (by first | exact lAwake | exact cf) trivial (by repeat' first | exact trivial | (intro _; assumption) | apply And.intro) ?_
         try simp only [vcb, ↓evSo_some, ↓reduceIte, reduceCtorEq, seval])
      | refine And.intro (fun h => ?_) (fun h => ?_)
      | refine And.intro (by first | omega | (simp only [maxLen, decide_eq_true_eq, decide_eq_false_iff_not] at *; omega)) ?_
      | (refine TR.aslO rfl rfl rfl rfl trivial (Nat.le_of_ble_eq_true rfl) ?_
         try simp only [vcb, ↓evSo_some, ↓reduceIte, reduceCtorEq, seval])
      | refine And.intro trivial ?_
      | refine And.intro rfl ?_
      | fail
  · exact RetK.pure (by simp only [rs4, rsb, vcb, ↓evSo_some, ↓reduceIte, reduceCtorEq, seval]) (by (simp only [rs4, rsb, vcb, ↓evSo_some, ↓reduceIte, reduceCtorEq, seval, enb, vcb, ↓evSo_some, ↓reduceIte, reduceCtorEq, seval]) <;> (first | rfl))
  have hf : ts.length ≤ 20 ∧ l.length ≤ 60 := by simpa using h
  clear h cf
  have c1 := sTOf ts l (by omega) (by omega)
  by_cases h0 : mayT ts l = 0
  · obtain ⟨tw, hpm⟩ := tower_ok h0
    obtain ⟨-, hX, -, -, -, -⟩ := may_ok h0
    have ho : ofT ts l = ((towerT ts l).2, (towerT ts l).1, 0) := by rw [ofT, if_neg (by simp [h0])]
    rw [ho] at c1
    have hsw := tw.sw
    rw [hpm.length_eq] at hsw
    have hW := tw.W; have pP := tw.P; have hN := tw.N
    have hla := hsw.la; have hlg := hsw.lg; have ham := hsw.am
    have hgl : ∀ (j : Nat) (g : List (Int × Int)), (towerT ts l).2[j]? = some g → g.length ≤ 20 := fun j g hg => by
      have := hsw.gl j g hg
      rw [if_neg (Nat.not_lt_zero j)] at this; omega
    clear hsw tw ho
    generalize towerT ts l = s at *
    obtain ⟨A, G⟩ := s
    simp only at hW pP hN hla hlg ham c1 hgl
    simp only [slT, slX, slK] at c1
    repeat' first
        | (first
            | refine TR.p hP (by first | exact c1) (by repeat' first | exact trivial | (intro _; assumption) | apply And.intro) ?_
            | refine TR.gp hP rfl (fun _ => by first | exact c1) (fun _ => by repeat' first | exact trivial | (intro _; assumption) | apply And.intro) ?_
            | refine TR.pv hP rfl (by first | exact c1) trivial (by repeat' first | exact trivial | (intro _; assumption) | apply And.intro) ?_
           try simp only [bne_self_eq_false, hla, hlg, vcb, ↓evSo_some, ↓reduceIte, reduceCtorEq, seval])
        | refine And.intro (fun h => ?_) (fun h => ?_)
        | refine And.intro (by first | omega | (simp only [maxLen, decide_eq_true_eq, decide_eq_false_iff_not] at *; omega)) ?_
        | (refine TR.aslO rfl rfl rfl rfl trivial (Nat.le_of_ble_eq_true rfl) ?_
           try simp only [bne_self_eq_false, hla, hlg, vcb, ↓evSo_some, ↓reduceIte, reduceCtorEq, seval])
        | refine And.intro trivial ?_
        | refine And.intro rfl ?_
        | fail
    refine vcC.loop (X := Nat) (fun i => ⟨[(1, .d (slX l)), (5, .d (.bool true)), (7, .d (gC G)), (8, .d (slK .i64 A)), (10, .d (.int .i64 i))], [], []⟩)
      (fun i => i ≤ l.length) (fun i => l.length - i) 0 (Nat.zero_le _) (Wk.of _ hfn rfl (by simp only [slX, gC, hla, hlg, enb, vcb, ↓evSo_some, ↓reduceIte, reduceCtorEq, seval]) (by simp only [enb, vcb, ↓evSo_some, ↓reduceIte, reduceCtorEq, seval])) ?_
    rintro i hi
    simp only [slX, gC, vcb, ↓evSo_some, ↓reduceIte, reduceCtorEq, seval]
    refine ⟨fun h1 => ?_, fun h1 => ?_⟩
    · have hlt : i < l.length := by have := of_decide_eq_true h1; omega
      obtain ⟨g, hd, hg, hgm, hat⟩ := drop_at (show i < G.length by omega)
      have w := hW i hlt; have p := pP i hlt; have nd := hN i hlt; have a := ham i
      have gl := hgl i g hat
      have b := get_of hlt hX
      rw [hg] at w p nd
      have hpos : ∀ q, q ∈ g → 0 < q.2 := fun q hq => (p q hq).1
      have ewi : IntKind.i64.wrap ((i : Int) + 1) = ((i + 1 : Nat) : Int) := wS (by omega)
      repeat' first
          | refine And.intro (fun h => ?_) (fun h => ?_)
          | refine And.intro (by first | omega | (simp only [maxLen, decide_eq_true_eq, decide_eq_false_iff_not] at *; omega)) ?_
          | (refine TR.aslO rfl rfl rfl rfl trivial (Nat.le_of_ble_eq_true rfl) ?_
             try simp only [nestD, hg, vcb, ↓evSo_some, ↓reduceIte, reduceCtorEq, seval])
          | refine And.intro trivial ?_
          | refine And.intro rfl ?_
          | fail
      refine vcC.loop (X := Nat) (fun k => ⟨[(1, .d (slX l)), (5, .d (.bool true)), (7, .d (gC G)), (8, .d (slK .i64 A)), (10, .d (.int .i64 i)), (11, .d (.int .i64 (A.getD i 0 + ((g.take k).map (·.2)).sum))), (12, .d (.int .i64 k))], [], []⟩)
        (fun k => k ≤ g.length) (fun k => g.length - k) 0 (Nat.zero_le _) (Wk.of _ hfn rfl (by simp only [slX, gC, List.take_zero, List.map_nil, List.sum_nil, Int.add_zero, enb, vcb, ↓evSo_some, ↓reduceIte, reduceCtorEq, seval]) (by simp only [enb, vcb, ↓evSo_some, ↓reduceIte, reduceCtorEq, seval])) ?_
      rintro k hk
      have hk0 := pos_take hpos k
      simp only [slX, gC, nestD, hg, vcb, ↓evSo_some, ↓reduceIte, reduceCtorEq, seval]
      refine ⟨⟨by omega, by omega⟩, fun h => ?_, fun h => ?_⟩
      · have hlt2 : k < g.length := by have := of_decide_eq_true h; omega
        obtain ⟨q, hd2, hq, hqm, hat2⟩ := drop_at hlt2
        have htk : g.take (k + 1) = g.take k ++ [q] := by rw [List.take_add_one, hat2]; rfl
        have hs1 : ((g.take (k + 1)).map (·.2)).sum = ((g.take k).map (·.2)).sum + q.2 := by rw [htk, List.map_append, List.sum_append]; simp
        have hk1 := pos_take hpos (k + 1)
        have hq0 := hpos q hqm
        have ew : IntKind.i64.wrap (A.getD i 0 + ((g.take k).map (·.2)).sum + q.2) = A.getD i 0 + ((g.take (k + 1)).map (·.2)).sum := by rw [hs1]; exact (wI (by omega)).trans (by omega)
        clear h
        simp only [hq, cC, hg, nestD, ew, vcb, ↓evSo_some, ↓reduceIte, reduceCtorEq, seval]
        repeat' first
            | refine And.intro (fun h => ?_) (fun h => ?_)
            | refine And.intro (by first | omega | (simp only [maxLen, decide_eq_true_eq, decide_eq_false_iff_not] at *; omega)) ?_
            | (refine TR.aslO rfl rfl rfl rfl trivial (Nat.le_of_ble_eq_true rfl) ?_
               try simp only [nestD, hg, hq, cC, ew, vcb, ↓evSo_some, ↓reduceIte, reduceCtorEq, seval])
            | refine And.intro trivial ?_
            | refine And.intro rfl ?_
            | fail
        · exfalso; have := of_decide_eq_true h; omega
        clear h
        refine vcC.loop (X := Nat) (fun m => ⟨[(1, .d (slX l)), (5, .d (.bool true)), (7, .d (gC G)), (8, .d (slK .i64 A)), (10, .d (.int .i64 i)), (11, .d (.int .i64 (A.getD i 0 + ((g.take (k + 1)).map (·.2)).sum))), (12, .d (.int .i64 k)), (13, .d (.int .i64 m))], [], []⟩)
          (fun m => m ≤ k) (fun m => k - m) 0 (Nat.zero_le _) (Wk.of _ hfn rfl (by simp only [slX, gC, enb, vcb, ↓evSo_some, ↓reduceIte, reduceCtorEq, seval]) (by simp only [enb, vcb, ↓evSo_some, ↓reduceIte, reduceCtorEq, seval])) ?_
        rintro m hm
        simp only [slX, gC, vcb, ↓evSo_some, ↓reduceIte, reduceCtorEq, seval]
        refine ⟨fun h3 => ?_, fun h3 => ?_⟩
        · have hlt3 : m < k := by have := of_decide_eq_true h3; omega
          obtain ⟨r, hd3, hr, hrm, hat3⟩ := drop_at (show m < g.length by omega)
          simp only [hr, hq, cC, hg, nestD, vcb, ↓evSo_some, ↓reduceIte, reduceCtorEq, seval]
          repeat' first
              | refine And.intro (fun h => ?_) (fun h => ?_)
              | refine And.intro (by first | omega | (simp only [maxLen, decide_eq_true_eq, decide_eq_false_iff_not] at *; omega)) ?_
              | (refine TR.aslO rfl rfl rfl rfl trivial (Nat.le_of_ble_eq_true rfl) ?_
                 try simp only [nestD, hg, hq, hr, cC, vcb, ↓evSo_some, ↓reduceIte, reduceCtorEq, seval])
              | refine And.intro trivial ?_
              | refine And.intro rfl ?_
              | fail
          · exfalso
            have he : r.1 = q.1 := by simpa using h
            rw [List.nodup_iff_pairwise_ne, List.pairwise_iff_getElem] at nd
            have := nd m k (by simp; omega) (by simp; omega) hlt3
            simp only [List.getElem_map] at this
            have e1 : g[m]'(by omega) = r := by rw [List.getElem?_eq_getElem (by omega)] at hat3; exact Option.some.inj hat3
            have e2 : g[k]'(by omega) = q := by rw [List.getElem?_eq_getElem (by omega)] at hat2; exact Option.some.inj hat2
            rw [e1, e2] at this
            exact this he
          · exact lopK.on (m + 1) (by omega) (by omega) (Wk.of _ hfn rfl (by simp only [slX, gC, enb, vcb, ↓evSo_some, ↓reduceIte, reduceCtorEq, seval]; exact wS (by omega)) (by simp only [enb, vcb, ↓evSo_some, ↓reduceIte, reduceCtorEq, seval]))
        · repeat' first
              | refine And.intro (fun h => ?_) (fun h => ?_)
              | refine And.intro (by first | omega | (simp only [maxLen, decide_eq_true_eq, decide_eq_false_iff_not] at *; omega)) ?_
              | (refine TR.aslO rfl rfl rfl rfl trivial (Nat.le_of_ble_eq_true rfl) ?_
                 try simp only [vcb, ↓evSo_some, ↓reduceIte, reduceCtorEq, seval])
              | refine And.intro trivial ?_
              | refine And.intro rfl ?_
              | fail
          exact lopK.on (k + 1) (by omega) (by omega) (Wk.of _ hfn rfl (by simp only [slX, gC, enb, vcb, ↓evSo_some, ↓reduceIte, reduceCtorEq, seval]; exact wS (by omega)) (by simp only [enb, vcb, ↓evSo_some, ↓reduceIte, reduceCtorEq, seval]))
      · have hkl : k = g.length := by have := of_decide_eq_false h; omega
        rw [hkl, List.take_length] at *
        clear h hk0
        have e1 : A.getD i 0 + (g.map (·.2)).sum = (l.getD i default).amt := by omega
        simp only [e1, vcb, ↓evSo_some, ↓reduceIte, reduceCtorEq, seval]
        repeat' first
            | refine And.intro (fun h => ?_) (fun h => ?_)
            | refine And.intro (by first | omega | (simp only [maxLen, decide_eq_true_eq, decide_eq_false_iff_not] at *; omega)) ?_
            | (refine TR.aslO rfl rfl rfl rfl trivial (Nat.le_of_ble_eq_true rfl) ?_
               try simp only [e1, vcb, ↓evSo_some, ↓reduceIte, reduceCtorEq, seval])
            | refine And.intro trivial ?_
            | refine And.intro rfl ?_
            | fail
        · exfalso
          rw [Bool.or_eq_true] at h
          rcases h with h | h
          · rw [bne_self_eq_false] at h; cases h
          · have := of_decide_eq_true h; omega
        · exact lopK.on (i + 1) hlt (by omega) (Wk.of _ hfn rfl (by simp only [slX, gC, ewi, enb, vcb, ↓evSo_some, ↓reduceIte, reduceCtorEq, seval]) (by simp only [enb, vcb, ↓evSo_some, ↓reduceIte, reduceCtorEq, seval]))
    · repeat' first
          | refine And.intro (fun h => ?_) (fun h => ?_)
          | refine And.intro (by first | omega | (simp only [maxLen, decide_eq_true_eq, decide_eq_false_iff_not] at *; omega)) ?_
          | (refine TR.aslO rfl rfl rfl rfl trivial (Nat.le_of_ble_eq_true rfl) ?_
             try simp only [vcb, ↓evSo_some, ↓reduceIte, reduceCtorEq, seval])
          | refine And.intro trivial ?_
          | refine And.intro rfl ?_
          | fail
      exact RetK.pure (by simp only [rs4, rsb, vcb, ↓evSo_some, ↓reduceIte, reduceCtorEq, seval]) (by (simp only [rs4, rsb, vcb, ↓evSo_some, ↓reduceIte, reduceCtorEq, seval, enb, vcb, ↓evSo_some, ↓reduceIte, reduceCtorEq, seval]) <;> (first | rfl))
  · have ho : ofT ts l = ([], [], mayT ts l) := by rw [ofT, if_pos h0]
    rw [ho] at c1
    simp only [slT, slX, slK, List.length_nil] at c1
    have hb : (mayT ts l != 0) = true := by simpa using h0
    repeat' first
        | (first
            | refine TR.p hP (by first | exact c1) (by repeat' first | exact trivial | (intro _; assumption) | apply And.intro) ?_
            | refine TR.gp hP rfl (fun _ => by first | exact c1) (fun _ => by repeat' first | exact trivial | (intro _; assumption) | apply And.intro) ?_
            | refine TR.pv hP rfl (by first | exact c1) trivial (by repeat' first | exact trivial | (intro _; assumption) | apply And.intro) ?_
           try simp only [hb, vcb, ↓evSo_some, ↓reduceIte, reduceCtorEq, seval])
        | refine And.intro (fun h => ?_) (fun h => ?_)
        | refine And.intro (by first | omega | (simp only [maxLen, decide_eq_true_eq, decide_eq_false_iff_not] at *; omega)) ?_
        | (refine TR.aslO rfl rfl rfl rfl trivial (Nat.le_of_ble_eq_true rfl) ?_
           try simp only [hb, vcb, ↓evSo_some, ↓reduceIte, reduceCtorEq, seval])
        | refine And.intro trivial ?_
        | refine And.intro rfl ?_
        | fail
    all_goals exact RetK.pure (by simp only [rs4, rsb, vcb, ↓evSo_some, ↓reduceIte, reduceCtorEq, seval]) (by (simp only [rs4, rsb, vcb, ↓evSo_some, ↓reduceIte, reduceCtorEq, seval, enb, vcb, ↓evSo_some, ↓reduceIte, reduceCtorEq, seval]) <;> (first | decide))
end Go.Proofs.Ytgpckelpmincmaa
end
section
set_option linter.unusedSimpArgs false
set_option linter.unusedVariables false
namespace Go.Proofs.Ytgpckelpmincmaa
set_option linter.unusedSimpArgs false
set_option linter.unusedVariables false
open Go.ChangeShapes Go.WideShapes Go.ChangeAt Go.RowKit Go.Bx
set_option maxRecDepth 100000
theorem towerWhole_lifted (os : Os) (started : os.Started) (H : Type) (enc : TypeId × Value → H) :
    ReturnsInHanded {} Try.checked os 4 .any (Rows.towerWholeSpec.pre6 enc Try.prog Try.f4 Rows.towerWholeRow.domain false) (Rows.towerWholeSpec.post enc Try.prog Try.f4 false true false false) := by
  refine returnsInHanded_of_change (C := Try.checked) Try.own started (by kernel_rfl) Try.func4
    (ChangeSpec.witness6 (enc := enc) (C := Try.checked) false ⟨#[], #[.slice none 0 0, .slice none 0 0], []⟩ 8 (by kernel_rfl) (by kernel_rfl) (by kernel_rfl) (by kernel_rfl)) ?_
  intro W base args ds gs before hval hW _ _
  refine law_calls (tb := 4) Try.laidOut (by kernel_rfl) (by kernel_rfl) Try.underlying4 rfl ?_ ?_ W base args ds gs before hval hW
  · intro ds hd
    match ds, hd with
    | [_, _], _ => rfl
  · intro W base args ds p hval hA
    rw [show Try.f4.params.toList = [22, 23] by kernel_rfl] at hA
    obtain ⟨v0, v1, d0, d1, p0, p1, rfl, rfl, _, h0, h1⟩ := trodAll_two hA
    obtain ⟨ts, tsk, r0⟩ := treaties_reads.cell (by kernel_rfl) (hval 0 22 v0 rfl rfl) h0
    obtain ⟨l, lk, r1⟩ := losses_reads.cell (by kernel_rfl) (hval 1 23 v1 rfl rfl) h1
    exact ⟨[.d (slT ts), .d (slX l)], rfl, rel2 r0 r1, lWhole ts l⟩
theorem towerWhole_holds : Rows.TowerWholeSaid :=
  OpenClaim.holds_of_wide 4 Try.f4 rfl rfl rfl rfl rfl rfl rfl ⟨rfl, rfl, rfl, rfl, rfl⟩ rfl rfl rfl rfl rfl (by kernel_rfl) Try.func4 (by kernel_rfl)
    (of_decide_eq_true (by kernel_rfl)) (by unfold Func.isWrapper; first | (rw [if_pos (by decide +kernel)]; kernel_rfl) | (rw [if_neg (by decide +kernel)]; exact ⟨rfl, rfl⟩))
    (fun os started H enc _ => towerWhole_lifted os started H enc)
end Go.Proofs.Ytgpckelpmincmaa
end
