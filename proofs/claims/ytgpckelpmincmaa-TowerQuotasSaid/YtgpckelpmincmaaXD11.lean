import Derived.Test.YtgpckelpmincmaaXD10
section
set_option linter.unusedSimpArgs false
set_option linter.unusedVariables false
namespace Go.Proofs.Ytgpckelpmincmaa
set_option linter.unusedSimpArgs false
set_option linter.unusedVariables false
open Go.Bx
set_option maxRecDepth 10000
theorem VLe.slD {full full' : Bool} {sz n : Nat} {f f' : Nat → List D} (hb : full' = true → full = true) (hf : ∀ i, i < n → (f i).length = (f' i).length ∧ ∀ (j : Nat) (x y : D), (f i)[j]? = some x → (f' i)[j]? = some y → VLe (.d x) (.d y)) : VLe (.d (.sl full sz n f)) (.d (.sl full' sz n f')) := by
  intro β E w v hv
  cases hv with
  | d _ _ hv =>
    refine .d _ _ ?_
    generalize hN : n = m at hv ⊢
    cases hv with
    | nil _ _ _ _ => exact .nil _ _ _ _
    | sl _ _ _ _ b off c g hc hfu hl hcell hrel =>
      subst hN
      refine .sl _ _ _ _ b off c g hc (fun h => hfu (hb h)) (fun i hi => by rw [← (hf i hi).1]; exact hl i hi) hcell (fun i j hi hj y hy => ?_)
      have hlt : j < (f i).length := by rw [hl i hi]; exact hj
      have h1 := hrel i j hi hj _ (List.getElem?_eq_getElem hlt)
      have h2 := (hf i hi).2 j _ y (List.getElem?_eq_getElem hlt) hy
      exact rel_d (h2 β E w _ (.d _ _ h1))
def exT : List Tr := [⟨2, 2, 1, 100, 0, 100, 50, 0, 1⟩, ⟨1, 1, 1, 100, 5000, 0, 0, 0, 1⟩]
def exL : List Ls := [⟨1, 0, 5, 0, 260⟩]
theorem ex_of : ofT exT exL = ([[(1, 130), (2, 30)]], [100], 0) := by
  have h1 : mayT exT exL = 0 := by decide +kernel
  have h2 : refT exT exL = ([100], [[(1, 130), (2, 30)]]) := by decide +kernel
  rw [ofT, if_neg (by rw [h1]; simp), tower_ref, h2]
theorem ex_order : orderT exT = [1, 0] := by rw [order_eq]; decide +kernel
theorem ex_sums : sumsT exT [[(1, 130), (2, 30)]] = [30, 130] := by decide +kernel
def eT : V := .d (.sl true 9 2 (litRow 9 [.int .i64 2, .int .i64 2, .int .i64 1, .int .i64 100, .int .i64 0, .int .i64 100, .int .i64 50, .int .i64 0, .int .i64 1, .int .i64 1, .int .i64 1, .int .i64 1, .int .i64 100, .int .i64 5000, .int .i64 0, .int .i64 0, .int .i64 0, .int .i64 1]))
def eL : V := .d (.sl true 5 1 (litRow 5 [.int .i64 1, .int .i64 0, .int .i64 5, .int .i64 0, .int .i64 260]))
def eC : V := .d (.sl true 1 1 (litRow 1 [.sl true 2 2 (litRow 2 [.int .i64 1, .int .i64 130, .int .i64 2, .int .i64 30])]))
def eI1 : V := .d (.sl true 1 1 (litRow 1 [.int .i64 100]))
def eI2 : V := .d (.sl true 1 2 (litRow 1 [.int .i64 1, .int .i64 0]))
def eI3 : V := .d (.sl true 1 2 (litRow 1 [.int .i64 30, .int .i64 130]))
theorem vle_exT : VLe eT (.d (slT exT)) :=
  VLe.sl rfl (fun _ => rfl) (fun h => by cases h) fun i hi => by
    have : i = 0 ∨ i = 1 := by omega
    rcases this with rfl | rfl <;> rfl
theorem vle_exL : VLe eL (.d (slX exL)) :=
  VLe.sl rfl (fun _ => rfl) (fun h => by cases h) fun i hi => by
    have : i = 0 := by omega
    subst this; rfl
theorem vle_exC : VLe eC (.d (gC [[(1, 130), (2, 30)]])) := by
  refine VLe.slD (fun h => by cases h) fun i hi => ?_
  have : i = 0 := by omega
  subst this
  refine ⟨rfl, fun j x y hx hy => ?_⟩
  have hj : j = 0 := by
    have := (List.getElem?_eq_some_iff.1 hy).1
    simp [nestD] at this; exact this
  subst hj
  simp [litRow] at hx
  simp [nestD] at hy
  subst hx; subst hy
  exact VLe.sl rfl (fun _ => rfl) (fun h => by cases h) fun i hi => by
    have : i = 0 ∨ i = 1 := by omega
    rcases this with rfl | rfl <;> rfl
set_option maxHeartbeats 2000000 in
theorem lAwake : Ctr Try.prog 9 [] [] (.d (.bool true)) [] [] := by
  have c1 := sTOf exT exL (by decide) (by decide)
  rw [ex_of] at c1
  have c1 := c1.arg (args := [eT, eL]) ⟨vle_exT, vle_exL, trivial⟩
  have c2 := sOrder exT (by decide)
  rw [ex_order] at c2
  have c2 := c2.arg (args := [eT]) ⟨vle_exT, trivial⟩
  have c3 := sSums exT [[(1, 130), (2, 30)]] (by decide) (by decide) (by decide)
  rw [ex_sums] at c3
  have c3 := c3.arg (args := [eT, .d (gC [[(1, 130), (2, 30)]])]) ⟨vle_exT, VLe.refl _, trivial⟩
  have c4 := (rSameC [[(1, 130), (2, 30)]] [[(1, 130), (2, 30)]] (by decide) (by decide) (by decide) (by decide)).arg (args := [.d (gC [[(1, 130), (2, 30)]]), eC]) ⟨VLe.refl _, vle_exC, trivial⟩
  have c5 := (s17 [100] [100] (by decide)).arg (args := [.d (slK .i64 [100]), eI1]) ⟨VLe.refl _, LitI.vle (by repeat constructor) (by rfl), trivial⟩
  have c6 := (s17 [1, 0] [1, 0] (by decide)).arg (args := [.d (slK .i64 [1, 0]), eI2]) ⟨VLe.refl _, LitI.vle (by repeat constructor) (by rfl), trivial⟩
  have c7 := (s17 [30, 130] [30, 130] (by decide)).arg (args := [.d (slK .i64 [30, 130]), eI3]) ⟨VLe.refl _, LitI.vle (by repeat constructor) (by rfl), trivial⟩
  simp only [gC, slK, eT, eL, eC, eI1, eI2, eI3, List.length_cons, List.length_nil, Nat.zero_add, Nat.reduceAdd, decide_true] at c1 c2 c3 c4 c5 c6 c7
  refine ctr_pure Try.func9 ok9 rfl cc9 cr9 Try.ntmps9 (by simp) rfl rfl ?_; intro c hP hfn; simp only [kc9, vcb, ↓evSo_some, ↓reduceIte, reduceCtorEq, seval]
  repeat' first
      | (first
          | refine TR.p hP (by first | exact c1 | exact c2 | exact c3 | exact c4 | exact c5 | exact c6 | exact c7) (by repeat' first | exact trivial | (intro _; assumption) | apply And.intro) ?_
          | refine TR.gp hP rfl (fun _ => by first | exact c1 | exact c2 | exact c3 | exact c4 | exact c5 | exact c6 | exact c7) (fun _ => by repeat' first | exact trivial | (intro _; assumption) | apply And.intro) ?_
          | refine TR.pv hP rfl (by first | exact c1 | exact c2 | exact c3 | exact c4 | exact c5 | exact c6 | exact c7) trivial (by repeat' first | exact trivial | (intro _; assumption) | apply And.intro) ?_
         try simp only [vcb, ↓evSo_some, ↓reduceIte, reduceCtorEq, seval])
      | refine And.intro (fun h => ?_) (fun h => ?_)
      | refine And.intro (by first | omega | (simp only [maxLen, decide_eq_true_eq, decide_eq_false_iff_not] at *; omega)) ?_
      | (refine TR.aslO rfl rfl rfl rfl trivial (Nat.le_of_ble_eq_true rfl) ?_
         try simp only [vcb, ↓evSo_some, ↓reduceIte, reduceCtorEq, seval])
      | refine And.intro trivial ?_
      | refine And.intro rfl ?_
      | fail
  exact RetK.pure (by simp only [rs9, rsb, vcb, ↓evSo_some, ↓reduceIte, reduceCtorEq, seval]) (by (simp only [rs9, rsb, vcb, ↓evSo_some, ↓reduceIte, reduceCtorEq, seval, enb, vcb, ↓evSo_some, ↓reduceIte, reduceCtorEq, seval]) <;> (first | simp))
end Go.Proofs.Ytgpckelpmincmaa
end
section
set_option linter.unusedSimpArgs false
set_option linter.unusedVariables false
namespace Go.Proofs.Ytgpckelpmincmaa
set_option linter.unusedSimpArgs false
set_option linter.unusedVariables false
open Go.Bx
set_option maxRecDepth 10000
def amtI (id : Int) (g : List (Int × Int)) : Int := ((g.filter (fun p => p.1 == id)).map (·.2)).sum
def tot (id : Int) (G : List (List (Int × Int))) : Int := (G.map (amtI id)).sum
theorem amtI_snoc (id : Int) (g : List (Int × Int)) (p : Int × Int) : amtI id (g ++ [p]) = amtI id g + (if p.1 = id then p.2 else 0) := by
  unfold amtI
  rw [List.filter_append, List.map_append, List.sum_append]
  congr 1
  by_cases h : p.1 = id
  · rw [if_pos h]; simp [h]
  · rw [if_neg h]; simp [h]
theorem amtI_none {id : Int} {g : List (Int × Int)} (h : ∀ p, p ∈ g → p.1 ≠ id) : amtI id g = 0 := by
  unfold amtI
  rw [List.filter_eq_nil_iff.2 (fun p hp => by simpa using h p hp)]; rfl
theorem sum_le_of : ∀ {a b : List Int}, a.length = b.length → (∀ j, j < a.length → a.getD j 0 ≤ b.getD j 0) → a.sum ≤ b.sum
  | [], [], _, _ => Int.le_refl _
  | [], _ :: _, h, _ => by simp at h
  | _ :: _, [], h, _ => by simp at h
  | x :: a, y :: b, h, hj => by
    have h0 := hj 0 (by simp)
    have h1 := sum_le_of (a := a) (b := b) (by simpa using h) (fun j hjl => by simpa using hj (j + 1) (by simpa using hjl))
    simp only [List.getD_cons_zero] at h0
    simp only [List.sum_cons]; omega
theorem map_getD {α : Type} {f : List α → Int} (h0 : f [] = 0) (G : List (List α)) (j : Nat) : (G.map f).getD j 0 = f (G.getD j []) := by
  simp only [List.getD_eq_getElem?_getD, List.getElem?_map]
  cases h : G[j]? with
  | none => simp [h0]
  | some g => rfl
theorem amtI_nil (id : Int) : amtI id [] = 0 := rfl
structure TwI (l : List Ls) (done : List Tr) (s : Sw) : Prop where
  sw : SwI l done.length 0 s
  W : ∀ j, j < l.length → ((s.2.getD j []).map (·.2)).sum + s.1.getD j 0 = (l.getD j default).amt
  P : ∀ j, j < l.length → ∀ p, p ∈ s.2.getD j [] → 0 < p.2 ∧ ∃ t, t ∈ done ∧ t.id = p.1 ∧ takesT t (l.getD j default) = true ∧ (t.kind = 1 → p.2 ≤ (bearsQ t (l.getD j default)).1)
  N : ∀ j, j < l.length → ((s.2.getD j []).map (·.1)).Nodup
  S : ∀ t, t ∈ done → t.kind ≠ 1 → tot t.id s.2 ≤ roomT t
theorem bearsA_q {t : Tr} (h : t.kind = 1) (l : List Ls) {j : Nat} (hj : j < l.length) : (bearsA t l).getD j 0 = (bearsQ t (l.getD j default)).1 := by
  unfold bearsA
  rw [if_neg (by omega), if_neg (by omega)]
  simp only [List.getD_eq_getElem?_getD, List.getElem?_map, List.getElem?_eq_getElem hj, Option.map_some, Option.getD_some]
theorem TwI.step {l rd : List Ls} {done : List Tr} {s : Sw} (h : TwI l done s) (hX : ∀ x, x ∈ l → lossX x = true) (hl : l.length ≤ 2000) {t : Tr} (ht : rightT t = true) (hid : t.id ∉ done.map (·.id)) (hr : RdOk l rd) (h1 : t.kind = 1 → rd = l) :
    TwI l (done ++ [t]) (swe t.id (bearsA t rd) s) := by
  obtain ⟨b1, b2, b3, b4⟩ := rd_bears hX hl hr ht
  have hget := swe_get t.id b1 h.sw.la h.sw.lg
  have hsw := swp_ok t.id b2 b1 h.sw
  have hq : t.kind = 1 → ∀ j, j < l.length → (bearsA t rd).getD j 0 = (bearsQ t (l.getD j default)).1 := fun hk j hj => by rw [h1 hk]; exact bearsA_q hk l hj
  generalize bearsA t rd = b at *
  have hne : ∀ j, j < l.length → ∀ p, p ∈ s.2.getD j [] → p.1 ≠ t.id := fun j hj p hp e => by
    obtain ⟨-, u, hu, hu2, -⟩ := h.P j hj p hp
    exact hid (List.mem_map.2 ⟨u, hu, by rw [hu2, e]⟩)
  refine ⟨by rw [List.length_append, List.length_singleton]; exact hsw, fun j hj => ?_, fun j hj p hp => ?_, fun j hj => ?_, fun u hu hk => ?_⟩
  · obtain ⟨g1, g2⟩ := hget j hj
    have hw := h.W j hj
    have ha := h.sw.am j
    have hb := b2 j
    rw [g1, g2]
    split
    · rw [List.map_append, List.sum_append]
      simp only [List.map_cons, List.map_nil, List.sum_cons, List.sum_nil]; omega
    · omega
  · obtain ⟨g1, g2⟩ := hget j hj
    rw [g2] at hp
    have old : p ∈ s.2.getD j [] → 0 < p.2 ∧ ∃ u, u ∈ done ++ [t] ∧ u.id = p.1 ∧ takesT u (l.getD j default) = true ∧ (u.kind = 1 → p.2 ≤ (bearsQ u (l.getD j default)).1) := fun hp => by
      obtain ⟨q1, u, q2, q3⟩ := h.P j hj p hp
      exact ⟨q1, u, List.mem_append_left _ q2, q3⟩
    split at hp
    · rename_i hm
      rcases List.mem_append.1 hp with hp | hp
      · exact old hp
      · simp only [List.mem_singleton] at hp
        subst hp
        refine ⟨hm, t, by simp, rfl, ?_, fun hk => ?_⟩
        · cases hh : takesT t (l.getD j default) with
          | true => rfl
          | false => have := b3 j hj hh; omega
        · rw [← hq hk j hj]; exact Int.min_le_left _ _
    · exact old hp
  · obtain ⟨g1, g2⟩ := hget j hj
    rw [g2]
    split
    · rw [List.map_append, List.map_cons, List.map_nil, List.nodup_append]
      refine ⟨h.N j hj, by simp, fun a ha c hc => ?_⟩
      simp only [List.mem_singleton] at hc
      subst hc
      obtain ⟨p, hp, rfl⟩ := List.mem_map.1 ha
      exact hne j hj p hp
    · exact h.N j hj
  · have hlen := hsw.lg
    rcases List.mem_append.1 hu with hu | hu
    · have hnu : u.id ≠ t.id := fun e => hid (List.mem_map.2 ⟨u, hu, e⟩)
      refine Int.le_trans (sum_le_of (by rw [List.length_map, List.length_map, hlen, h.sw.lg]) fun j hj => ?_) (h.S u hu hk)
      rw [List.length_map, hlen] at hj
      rw [map_getD (amtI_nil _), map_getD (amtI_nil _), (hget j hj).2]
      split
      · rw [amtI_snoc, if_neg (fun e => hnu e.symm)]; omega
      · exact Int.le_refl _
    · simp only [List.mem_singleton] at hu
      subst hu
      refine Int.le_trans (sum_le_of (by rw [List.length_map, hlen, b1]) fun j hj => ?_) (b4 hk)
      rw [List.length_map, hlen] at hj
      rw [map_getD (amtI_nil _), (hget j hj).2]
      have h0 : amtI u.id (s.2.getD j []) = 0 := amtI_none (hne j hj)
      have hb := b2 j
      split
      · rw [amtI_snoc, if_pos rfl, h0]
        have := Int.min_le_left (b.getD j 0) (s.1.getD j 0); simp only; omega
      · rw [h0]; exact hb
theorem twrT_ok {l : List Ls} (hX : ∀ x, x ∈ l → lossX x = true) (hl : l.length ≤ 2000) : ∀ (r done : List Tr) (s : Sw) (rd : List Ls) (kd : Int), TwI l done s → (∀ t, t ∈ r → rightT t = true) → ((done ++ r).map (·.id)).Nodup → RdOk l rd → (kd = 1 → rd = l) →
    r.Pairwise (fun a b => a.kind ≤ b.kind) → (∀ t, t ∈ r → kd ≤ t.kind) → 1 ≤ kd → TwI l (done ++ r) (twrT l r s rd kd)
  | [], done, s, rd, kd, h, _, _, _, _, _, _, _ => by rw [List.append_nil, twrT]; exact h
  | t :: r, done, s, rd, kd, h, hR, hN, hr, h1, hp, hk, hk1 => by
    rw [twrT]
    have htk := hk t List.mem_cons_self
    have hpw := List.pairwise_cons.1 hp
    have hr' : RdOk l (if t.kind ≠ kd then withX l s.1 else rd) := by
      split
      · exact RdOk.next h.sw
      · exact hr
    have h1' : t.kind = 1 → (if t.kind ≠ kd then withX l s.1 else rd) = l := fun e => by
      have : kd = 1 := by omega
      rw [if_neg (by omega)]; exact h1 this
    have hid : t.id ∉ done.map (·.id) := by
      rw [List.map_append, List.map_cons, List.nodup_append] at hN
      intro hm
      exact hN.2.2 _ hm _ List.mem_cons_self rfl
    have := twrT_ok hX hl r (done ++ [t]) _ _ t.kind (h.step hX hl (hR t List.mem_cons_self) hid hr' h1') (fun u hu => hR u (List.mem_cons_of_mem _ hu)) (by simpa using hN) hr' h1' hpw.2 hpw.1 (by omega)
    simpa using this
theorem dup_iff : ∀ (ts : List Tr) (seen : List Int), dupT seen ts = false ↔ (∀ t, t ∈ ts → t.id ∉ seen) ∧ (ts.map (·.id)).Nodup
  | [], seen => by simp [dupT]
  | t :: r, seen => by
    rw [dupT]
    by_cases h : t.id ∈ seen
    · rw [if_pos h]
      constructor
      · intro e; cases e
      · intro e; exact absurd h (e.1 t List.mem_cons_self)
    · rw [if_neg h, dup_iff r (t.id :: seen), List.map_cons, List.nodup_cons]
      constructor
      · rintro ⟨h1, h2⟩
        refine ⟨fun u hu => ?_, fun hm => ?_, h2⟩
        · rcases List.mem_cons.1 hu with rfl | hu
          · exact h
          · exact fun e => h1 u hu (List.mem_cons_of_mem _ e)
        · obtain ⟨u, hu, e⟩ := List.mem_map.1 hm
          exact h1 u hu (by rw [e]; exact List.mem_cons_self)
      · rintro ⟨h1, h2, h3⟩
        refine ⟨fun u hu hm => ?_, h3⟩
        rcases List.mem_cons.1 hm with e | hm
        · exact h2 (List.mem_map.2 ⟨u, hu, e⟩)
        · exact h1 u (List.mem_cons_of_mem _ hu) hm
theorem sw0_tw {l : List Ls} (hX : ∀ x, x ∈ l → lossX x = true) : TwI l [] (sw0 l) := by
  have hz : ∀ j, (sw0 l).2.getD j [] = [] := fun j => by
    simp only [sw0, List.getD_eq_getElem?_getD, List.getElem?_replicate]; split <;> rfl
  refine ⟨sw0_ok l hX, fun j hj => ?_, fun j hj p hp => ?_, fun j hj => ?_, fun t ht => ?_⟩
  · rw [hz]
    simp only [sw0, List.map_nil, List.sum_nil, Int.zero_add, List.getD_eq_getElem?_getD, List.getElem?_map, List.getElem?_eq_getElem hj, Option.map_some, Option.getD_some]
  · rw [hz] at hp; simp at hp
  · rw [hz]; simp
  · simp at ht
theorem tower_ok {ts : List Tr} {l : List Ls} (h : mayT ts l = 0) : TwI l (ordL ts) (towerT ts l) ∧ (ordL ts).Perm ts := by
  obtain ⟨hR, hX, h1, h2, h3, -⟩ := may_ok h
  have hp := ordL_perm (ts := ts) (fun t ht => right_kind (hR t ht))
  have hnd := ((dup_iff ts []).1 h3).2
  have hR' : ∀ t, t ∈ ordL ts → rightT t = true := fun t ht => hR t (ordL_mem ht)
  have := twrT_ok hX h2 (ordL ts) [] (sw0 l) l 1 (sw0_tw hX) hR' (by simpa using (hp.map (·.id)).nodup_iff.2 hnd) (RdOk.self hX) (fun _ => rfl) (ordL_kinds ts) (fun t ht => by have := right_kind (hR' t ht); omega) (Int.le_refl _)
  rw [towerT_eq]
  exact ⟨by simpa using this, hp⟩
end Go.Proofs.Ytgpckelpmincmaa
end
section
set_option linter.unusedSimpArgs false
set_option linter.unusedVariables false
namespace Go.Proofs.Ytgpckelpmincmaa
set_option linter.unusedSimpArgs false
set_option linter.unusedVariables false
open Go.Bx
set_option maxRecDepth 10000
theorem get_of {l : List Ls} {j : Nat} (hj : j < l.length) (hX : ∀ x, x ∈ l → lossX x = true) : 0 ≤ (l.getD j default).amt ∧ (l.getD j default).amt ≤ 1000000000000000 := by
  have := lossX_iff.1 (hX (l.getD j default) (by rw [List.getD_eq_getElem?_getD, List.getElem?_eq_getElem hj]; exact List.getElem_mem hj))
  omega
theorem pos_take {g : List (Int × Int)} (h : ∀ p, p ∈ g → 0 < p.2) (k : Nat) : 0 ≤ ((g.take k).map (·.2)).sum ∧ ((g.take k).map (·.2)).sum ≤ (g.map (·.2)).sum := by
  have h1 := sum_nonneg (l := (g.take k).map (·.2)) (fun x hx => by
    obtain ⟨p, hp, rfl⟩ := List.mem_map.1 hx
    have := h p (List.mem_of_mem_take hp); omega)
  have h2 := sum_nonneg (l := (g.drop k).map (·.2)) (fun x hx => by
    obtain ⟨p, hp, rfl⟩ := List.mem_map.1 hx
    have := h p (List.mem_of_mem_drop hp); omega)
  have h3 : (g.map (·.2)).sum = ((g.take k).map (·.2)).sum + ((g.drop k).map (·.2)).sum := by rw [← List.sum_append, ← List.map_append, List.take_append_drop]
  omega
end Go.Proofs.Ytgpckelpmincmaa
end
section
set_option linter.unusedSimpArgs false
set_option linter.unusedVariables false
namespace Go.Proofs.Ytgpckelpmincmaa
set_option linter.unusedSimpArgs false
set_option linter.unusedVariables false
open Go.Bx
set_option maxRecDepth 10000
theorem sum_const_le {B : Int} : ∀ {a : List Int}, (∀ x, x ∈ a → x ≤ B) → a.sum ≤ B * a.length
  | [], _ => by simp
  | x :: a, h => by
    have h1 := h x List.mem_cons_self
    have h2 := sum_const_le (a := a) (fun y hy => h y (List.mem_cons_of_mem _ hy))
    rw [List.sum_cons, List.length_cons]
    have : B * ((a.length + 1 : Nat) : Int) = B * a.length + B := by rw [Int.natCast_add, Int.mul_add]; simp
    omega
end Go.Proofs.Ytgpckelpmincmaa
end
section
set_option linter.unusedSimpArgs false
set_option linter.unusedVariables false
namespace Go.Proofs.Ytgpckelpmincmaa
set_option linter.unusedSimpArgs false
set_option linter.unusedVariables false
open Go.Bx
set_option maxRecDepth 10000
theorem any_perm {α : Type} {p : α → Bool} {a b : List α} (h : a.Perm b) : a.any p = b.any p := by
  rw [Bool.eq_iff_iff, List.any_eq_true, List.any_eq_true]
  constructor
  · rintro ⟨x, hx, hp⟩; exact ⟨x, h.mem_iff.1 hx, hp⟩
  · rintro ⟨x, hx, hp⟩; exact ⟨x, h.mem_iff.2 hx, hp⟩
theorem sum_perm {a b : List Int} (h : a.Perm b) : a.sum = b.sum := by
  induction h with
  | nil => rfl
  | cons x _ ih => rw [List.sum_cons, List.sum_cons, ih]
  | swap x y l => simp only [List.sum_cons]; omega
  | trans _ _ ih1 ih2 => exact ih1.trans ih2
theorem dup_perm {ts us : List Tr} (h : ts.Perm us) : dupT [] ts = dupT [] us := by
  have h1 := dup_iff ts []
  have h2 := dup_iff us []
  have h3 := (h.map (·.id)).nodup_iff
  have h4 : dupT [] ts = false ↔ dupT [] us = false := by
    rw [h1, h2, h3]; simp
  cases e1 : dupT [] ts <;> cases e2 : dupT [] us <;> simp_all
theorem over_perm {ts us : List Tr} (h : ts.Perm us) (x : Ls) : overT ts x = overT us x := by
  unfold overT bpsT
  rw [sum_perm ((h.filter _).map _)]
theorem may_perm {ts us : List Tr} (h : ts.Perm us) (l : List Ls) : mayT ts l = mayT us l := by
  unfold mayT
  rw [any_perm h, h.length_eq, dup_perm h, show overT ts = overT us from funext (over_perm h)]
end Go.Proofs.Ytgpckelpmincmaa
end
section
set_option linter.unusedSimpArgs false
set_option linter.unusedVariables false
namespace Go.Proofs.Ytgpckelpmincmaa
set_option linter.unusedSimpArgs false
set_option linter.unusedVariables false
open Go.Bx
set_option maxRecDepth 10000
def nQ (x : Ls) (q : Tr) : Int := (bearsQ q x).1
theorem nQ_nn {x : Ls} {q : Tr} : 0 ≤ nQ x q := by
  unfold nQ
  rw [bearsQ_eq]
  split
  · rename_i h; have := bears_m h.1 h.2; simp only; omega
  · exact Int.le_refl _
theorem nQ_sum {x : Ls} : ∀ (L : List Tr), 0 ≤ (L.map (nQ x)).sum
  | [] => by simp
  | q :: L => by have := nQ_sum (x := x) L; have := nQ_nn (x := x) (q := q); rw [List.map_cons, List.sum_cons]; omega
theorem twrT_q {l : List Ls} (hX : ∀ x, x ∈ l → lossX x = true) (hl : l.length ≤ 2000) : ∀ (L : List Tr) (k : Nat) (s : Sw), SwI l k 0 s → (∀ q, q ∈ L → rightT q = true ∧ q.kind = 1) → ∀ j, j < l.length → (L.map (nQ (l.getD j default))).sum ≤ s.1.getD j 0 →
    (twrT l L s l 1).1.getD j 0 = s.1.getD j 0 - (L.map (nQ (l.getD j default))).sum
  | [], _, s, _, _, j, _, _ => by simp [twrT]
  | q :: L, k, s, hs, hq, j, hj, hle => by
    obtain ⟨q1, q2⟩ := hq q List.mem_cons_self
    have hrd : (if q.kind ≠ 1 then withX l s.1 else l) = l := by rw [if_neg (by omega)]
    obtain ⟨b1, b2, -, -⟩ := rd_bears hX hl (RdOk.self hX) q1
    have hb := bearsA_q q2 l hj
    have hg := (swe_get q.id b1 hs.la hs.lg j hj).1
    rw [twrT, hrd, q2]
    rw [List.map_cons, List.sum_cons] at hle ⊢
    have h0 := nQ_nn (x := l.getD j default) (q := q)
    have h1 := nQ_sum (x := l.getD j default) L
    have hb' : (bearsA q l).getD j 0 = nQ (l.getD j default) q := hb
    rw [hb'] at hg
    have := twrT_q hX hl L (k + 1) _ (swp_ok q.id b2 b1 hs) (fun u hu => hq u (List.mem_cons_of_mem _ hu)) j hj (by rw [hg]; omega)
    rw [this, hg]; omega
theorem tower_quotas {qs : List Tr} {l : List Ls} (h : mayT qs l = 0) (hk : ∀ q, q ∈ qs → q.kind = 1) {j : Nat} (hj : j < l.length) (hle : (qs.map (nQ (l.getD j default))).sum ≤ (l.getD j default).amt) :
    (towerT qs l).1.getD j 0 = (l.getD j default).amt - (qs.map (nQ (l.getD j default))).sum ∧ (((towerT qs l).2.getD j []).map (·.2)).sum = (qs.map (nQ (l.getD j default))).sum := by
  obtain ⟨hR, hX, -, hls, -, -⟩ := may_ok h
  obtain ⟨tw, hpm⟩ := tower_ok h
  have hsum : ((ordL qs).map (nQ (l.getD j default))).sum = (qs.map (nQ (l.getD j default))).sum := sum_perm (hpm.map _)
  have h0 : (sw0 l).1.getD j 0 = (l.getD j default).amt := by
    simp only [sw0, List.getD_eq_getElem?_getD, List.getElem?_map, List.getElem?_eq_getElem hj, Option.map_some, Option.getD_some]
  have := twrT_q hX hls (ordL qs) 0 (sw0 l) (sw0_ok l hX) (fun q hq => ⟨hR q (ordL_mem hq), hk q (ordL_mem hq)⟩) j hj (by rw [hsum, h0]; exact hle)
  have hw := tw.W j hj
  rw [towerT_eq] at hw ⊢
  rw [hsum, h0] at this
  refine ⟨this, ?_⟩
  rw [this] at hw; omega
end Go.Proofs.Ytgpckelpmincmaa
end
section
set_option linter.unusedSimpArgs false
set_option linter.unusedVariables false
namespace Go.Proofs.Ytgpckelpmincmaa
set_option linter.unusedSimpArgs false
set_option linter.unusedVariables false
open Go.Bx
set_option maxRecDepth 10000
def rowT (l : List Tr) : Own := .row 43 9 l.length (fun i => [.int .i64 (l.getD i default).id, .int .i64 (l.getD i default).kind, .int .i64 (l.getD i default).sf, .int .i64 (l.getD i default).st, .int .i64 (l.getD i default).bp, .int .i64 (l.getD i default).att, .int .i64 (l.getD i default).wid, .int .i64 (l.getD i default).aga, .int .i64 (l.getD i default).per])
def cTD (t : Tr) : List D := [.int .i64 t.id, .int .i64 t.kind, .int .i64 t.sf, .int .i64 t.st, .int .i64 t.bp, .int .i64 t.att, .int .i64 t.wid, .int .i64 t.aga, .int .i64 t.per]
theorem nQ_le {x : Ls} {q : Tr} (h : 0 ≤ x.amt) : nQ x q ≤ x.amt := by
  unfold nQ
  rw [bearsQ_eq]
  split
  · rename_i hh; have := bears_m hh.1 hh.2; simp only; omega
  · exact h
theorem nQ_take {x : Ls} (h : 0 ≤ x.amt) (qs : List Tr) (k : Nat) : 0 ≤ ((qs.take k).map (nQ x)).sum ∧ ((qs.take k).map (nQ x)).sum ≤ x.amt * k := by
  refine ⟨nQ_sum _, ?_⟩
  refine Int.le_trans (sum_const_le (B := x.amt) fun y hy => ?_) (Int.mul_le_mul_of_nonneg_left (by rw [List.length_map, List.length_take]; omega) h)
  obtain ⟨q, -, rfl⟩ := List.mem_map.1 hy
  exact nQ_le h
structure OfR (ts : List Tr) (l : List Ls) (G : List (List (Int × Int))) (A : List Int) : Prop where
  ok : mayT ts l = 0 → G = (towerT ts l).2 ∧ A = (towerT ts l).1 ∧ G.length = l.length ∧ A.length = l.length
  no : mayT ts l ≠ 0 → G = [] ∧ A = []
theorem of_r (ts : List Tr) (l : List Ls) : ∃ G A, ofT ts l = (G, A, mayT ts l) ∧ OfR ts l G A := by
  by_cases h : mayT ts l = 0
  · have hsw := (tower_ok h).1.sw
    exact ⟨_, _, by rw [ofT, if_neg (by simp [h]), h], fun _ => ⟨rfl, rfl, hsw.lg, hsw.la⟩, fun h' => absurd h h'⟩
  · exact ⟨_, _, by rw [ofT, if_pos h], fun h' => absurd h' h, fun _ => ⟨rfl, rfl⟩⟩
theorem tower_nil {l : List Ls} {j : Nat} (hj : j < l.length) : (towerT [] l).1.getD j 0 = (l.getD j default).amt := by
  have : towerT [] l = sw0 l := rfl
  rw [this]
  simp only [sw0, List.getD_eq_getElem?_getD, List.getElem?_map, List.getElem?_eq_getElem hj, Option.map_some, Option.getD_some]
theorem may_nil {qs : List Tr} {l : List Ls} (h : mayT qs l = 0) : mayT [] l = 0 := by
  obtain ⟨-, hX, -, h2, -, -⟩ := may_ok h
  have hany : l.any (fun x => !(lossX x)) = false := List.any_eq_false.2 fun x h => by simp [hX x h]
  have h3 : l.any (overT []) = false := List.any_eq_false.2 fun x _ => by simp [overT, bpsT]
  unfold mayT
  rw [hany, h3]
  rw [if_neg (by simp), if_neg (by simp; omega), if_neg (by simp [dupT]), if_neg (by simp)]
set_option maxHeartbeats 8000000 in
theorem lQuotas (ts : List Tr) (l : List Ls) : Ctr Try.prog 6 [.d (slT ts), .d (slX l)] [] (.d (.bool true)) [] [] := by
  have cf := rFew ts l
  simp only [slT, slX] at cf
  refine ctr_pure Try.func6 ok6 rfl cc6 cr6 Try.ntmps6 (by simp) rfl rfl ?_; intro c hP hfn; simp only [kc6, slT, slX, vcb, ↓evSo_some, ↓reduceIte, reduceCtorEq, seval]
  repeat' first
      | (first
          | refine TR.p hP (by first | exact lAwake | exact cf) (by repeat' first | exact trivial | (intro _; assumption) | apply And.intro) ?_
          | refine TR.gp hP rfl (fun _ => by first | exact lAwake | exact cf) (fun _ => by repeat' first | exact trivial | (intro _; assumption) | apply And.intro) ?_
          | refine TR.pv hP rfl (by first | exact lAwake | exact cf) trivial (by repeat' first | exact trivial | (intro _; assumption) | apply And.intro) ?_
         try simp only [vcb, ↓evSo_some, ↓reduceIte, reduceCtorEq, seval])
      | refine And.intro (fun h => ?_) (fun h => ?_)
      | refine And.intro (by first | omega | (simp only [maxLen, decide_eq_true_eq, decide_eq_false_iff_not] at *; omega)) ?_
      | (refine TR.aslO rfl rfl rfl rfl trivial (Nat.le_of_ble_eq_true rfl) ?_
         try simp only [vcb, ↓evSo_some, ↓reduceIte, reduceCtorEq, seval])
      | refine And.intro trivial ?_
      | refine And.intro rfl ?_
      | fail
  · exact RetK.pure (by simp only [rs6, rsb, vcb, ↓evSo_some, ↓reduceIte, reduceCtorEq, seval]) (by (simp only [rs6, rsb, vcb, ↓evSo_some, ↓reduceIte, reduceCtorEq, seval, enb, vcb, ↓evSo_some, ↓reduceIte, reduceCtorEq, seval]) <;> (first | rfl))
  have hf : ts.length ≤ 20 ∧ l.length ≤ 60 := by simpa using h
  clear h cf
  refine vcC.loopX (X := Nat × List Tr) (Y := List Tr) (fun x => ⟨[(0, .d (slT ts)), (1, .d (slX l)), (5, .d (.bool true)), (7, .osl 1000), (8, .d (.int .i64 x.1))], [(1000, rowT x.2)], [1000]⟩)
    (fun x => x.1 ≤ ts.length ∧ x.2.length ≤ 4 ∧ ∀ q, q ∈ x.2 → q.kind = 1) (fun x => ts.length - x.1) (0, [])
    (fun qs => ⟨[(1, .d (slX l)), (5, .d (.bool true)), (7, .d (slT qs))], [], []⟩) (fun qs => qs.length ≤ 4 ∧ ∀ q, q ∈ qs → q.kind = 1)
    ⟨Nat.zero_le _, Nat.zero_le _, by simp⟩ ((Wk.row0 (s := 7) (k := 1000) (e := 43) (sz := 9) (f' := fun _ => []) rfl rfl (by simp)).trans (Wk.of _ hfn rfl (by simp only [slT, slX, enb, vcb, ↓evSo_some, ↓reduceIte, reduceCtorEq, seval]) (by simp only [rowT, enb, vcb, ↓evSo_some, ↓reduceIte, reduceCtorEq, seval]; exact OLe.row rfl (fun i hi => absurd hi (Nat.not_lt_zero i))))) ?_ ?_
  · rintro ⟨i, qs⟩ ⟨hi, hq4, hqk⟩
    simp only at hi hq4 hqk
    simp only [slT, slX, rowT, vcb, ↓evSo_some, ↓reduceIte, reduceCtorEq, seval]
    refine ⟨fun h => ?_, fun h => ?_⟩
    · rw [Bool.and_eq_true, decide_eq_true_eq, decide_eq_true_eq] at h
      have hlt : i < ts.length := by omega
      have hq3 : qs.length < 4 := by omega
      obtain ⟨t, hd, hg, htm, -⟩ := drop_at hlt
      have ewi : IntKind.i64.wrap ((i : Int) + 1) = ((i + 1 : Nat) : Int) := wS (by omega)
      have cr := s26 { t with bp := IntKind.i64.wrap (t.bp.tdiv 5) }
      simp only [vT, cT] at cr
      clear h
      have hbytes : (qs.length + 1) * 72 ≤ 140737488355328 := by omega
      have hmx : qs.length + 1 ≤ maxLen := by simp only [maxLen]; omega
      simp only [hg, vcb, ↓evSo_some, ↓reduceIte, reduceCtorEq, seval]
      repeat' first
          | (first
              | refine TR.p hP (by first | exact cr) (by repeat' first | exact trivial | (intro _; assumption) | apply And.intro) ?_
              | refine TR.gp hP rfl (fun _ => by first | exact cr) (fun _ => by repeat' first | exact trivial | (intro _; assumption) | apply And.intro) ?_
              | refine TR.pv hP rfl (by first | exact cr) trivial (by repeat' first | exact trivial | (intro _; assumption) | apply And.intro) ?_
             try simp only [hg, vcb, ↓evSo_some, ↓reduceIte, reduceCtorEq, seval])
          | refine And.intro (fun h => ?_) (fun h => ?_)
          | refine And.intro (by first | omega | (simp only [maxLen, decide_eq_true_eq, decide_eq_false_iff_not] at *; omega)) ?_
          | (refine TR.aslO rfl rfl rfl rfl trivial (Nat.le_of_ble_eq_true rfl) ?_
             try simp only [hg, vcb, ↓evSo_some, ↓reduceIte, reduceCtorEq, seval])
          | refine And.intro trivial ?_
          | refine And.intro rfl ?_
          | fail
      · refine lopX.on (i + 1, qs ++ [{ t with bp := IntKind.i64.wrap (t.bp.tdiv 5) }]) ⟨by simp only; omega, by simp only [List.length_append, List.length_singleton]; omega, fun q hq => ?_⟩ (by simp only; omega)
          ((Wk.sw 65 1000 _ hfn (by simp) (by simp)).trans (Wk.of _ hfn rfl (by simp only [slT, slX, ewi, enb, vcb, ↓evSo_some, ↓reduceIte, reduceCtorEq, seval]) (by simp only [rowT, enb, vcb, ↓evSo_some, ↓reduceIte, reduceCtorEq, seval]; exact OLe.app1 cTD (fun i hi => by simp [hi, cTD]) (by simp [litRow, cTD]))))
        rcases List.mem_append.1 hq with hq | hq
        · exact hqk q hq
        · simp only [List.mem_singleton] at hq
          subst hq
          rw [Bool.and_eq_true] at h
          simpa using h.1
      · exact lopX.on (i + 1, qs) ⟨by simp only; omega, hq4, hqk⟩ (by simp only; omega) (Wk.of _ hfn rfl (by simp only [slT, slX, ewi, enb, vcb, ↓evSo_some, ↓reduceIte, reduceCtorEq, seval]) (by simp only [rowT, enb, vcb, ↓evSo_some, ↓reduceIte, reduceCtorEq, seval]))
    · refine ⟨qs, ⟨hq4, hqk⟩, (Wk.pub 1000 rfl).trans (Wk.of _ hfn rfl (by simp only [slT, slX, pubE, enb, vcb, ↓evSo_some, ↓reduceIte, reduceCtorEq, seval]) (by simp only [enb, vcb, ↓evSo_some, ↓reduceIte, reduceCtorEq, seval]))⟩
  rintro qs ⟨hq4, hqk⟩
  simp only [slT, slX, vcb, ↓evSo_some, ↓reduceIte, reduceCtorEq, seval]
  refine vcC.loop (X := Nat) (fun n => ⟨[(1, .d (slX l)), (5, .d (.bool true)), (7, .d (slT qs)), (10, .osl 1001), (11, .d (.int .i64 ((n : Int) - 1)))], [(1001, rowT (qs.drop n).reverse)], [1001]⟩)
    (fun n => n ≤ qs.length) (fun n => n) qs.length (Nat.le_refl _)
    ((Wk.row0 (s := 10) (k := 1001) (e := 43) (sz := 9) (f' := fun _ => []) rfl rfl (by simp)).trans (Wk.of _ hfn rfl (by simp only [slT, slX, enb, vcb, ↓evSo_some, ↓reduceIte, reduceCtorEq, seval]; exact wI (by omega)) (by simp only [rowT, List.drop_length, List.reverse_nil, enb, vcb, ↓evSo_some, ↓reduceIte, reduceCtorEq, seval]; exact OLe.row rfl (fun i hi => absurd hi (Nat.not_lt_zero i))))) ?_
  rintro n hn
  simp only [slT, slX, rowT, vcb, ↓evSo_some, ↓reduceIte, reduceCtorEq, seval]
  refine ⟨fun h => ?_, fun h => ?_⟩
  · have h0 := of_decide_eq_true h
    obtain ⟨m, rfl⟩ : ∃ m, n = m + 1 := ⟨n - 1, by omega⟩
    have e1 : ((m + 1 : Nat) : Int) - 1 = (m : Int) := by omega
    have ewm : IntKind.i64.wrap ((m : Int) - 1) = (m : Int) - 1 := wI (by omega)
    obtain ⟨t, hd, hg, htm, hat⟩ := drop_at (show m < qs.length by omega)
    have hrl : (qs.drop (m + 1)).reverse.length ≤ 4 := by rw [List.length_reverse, List.length_drop]; omega
    have hrev : (qs.drop m).reverse = (qs.drop (m + 1)).reverse ++ [t] := by rw [hd, List.reverse_cons]
    generalize hR : (qs.drop (m + 1)).reverse = R at *
    clear h h0
    have hbytes : (R.length + 1) * 72 ≤ 140737488355328 := by omega
    have hmx : R.length + 1 ≤ maxLen := by simp only [maxLen]; omega
    simp only [e1, hg, ewm, Int.toNat_natCast, vcb, ↓evSo_some, ↓reduceIte, reduceCtorEq, seval]
    repeat' first
        | refine And.intro (fun h => ?_) (fun h => ?_)
        | refine And.intro (by first | omega | (simp only [maxLen, decide_eq_true_eq, decide_eq_false_iff_not] at *; omega)) ?_
        | (refine TR.aslO rfl rfl rfl rfl trivial (Nat.le_of_ble_eq_true rfl) ?_
           try simp only [hg, ewm, e1, Int.toNat_natCast, vcb, ↓evSo_some, ↓reduceIte, reduceCtorEq, seval])
        | refine And.intro trivial ?_
        | refine And.intro rfl ?_
        | fail
    exact lopK.on m (by omega) (by omega) ((Wk.sw 79 1001 _ hfn (by simp) (by simp)).trans (Wk.of _ hfn rfl (by simp only [slT, slX, enb, vcb, ↓evSo_some, ↓reduceIte, reduceCtorEq, seval]) (by simp only [rowT, hrev, enb, vcb, ↓evSo_some, ↓reduceIte, reduceCtorEq, seval]; exact OLe.app1 cTD (fun i hi => by simp [hi, cTD]) (by simp [litRow, cTD]))))
  have hn0 : n = 0 := by have := of_decide_eq_false h; omega
  subst hn0
  rw [List.drop_zero]
  clear h hn
  obtain ⟨G1, A1, o1, r1⟩ := of_r qs l
  obtain ⟨G2, A2, o2, r2⟩ := of_r qs.reverse l
  obtain ⟨G3, A3, o3, r3⟩ := of_r [] l
  have hmr : mayT qs.reverse l = mayT qs l := may_perm (List.reverse_perm qs) l
  rw [hmr] at o2
  have c1 := sTOf qs l (by omega) (by omega)
  have c2 := sTOf qs.reverse l (by rw [List.length_reverse]; omega) (by omega)
  have c3 := (sTOf [] l (by simp) (by omega)).arg (args := [.d (.sl true 0 0 fun _ => []), .d (slX l)]) ⟨VLe.nil rfl (by simp), VLe.refl _, trivial⟩
  rw [o1] at c1
  rw [o2] at c2
  rw [o3] at c3
  have hrl : qs.reverse.length = qs.length := List.length_reverse
  have hbq : qs.reverse.Perm qs := List.reverse_perm qs
  generalize hrv : qs.reverse = bk at *
  simp only [slT, slX, slK] at c1 c2 c3
  by_cases he : mayT qs l = 0
  · have hg := may_nil he
    rw [he] at c1 c2
    rw [hg] at c3
    obtain ⟨a1, a2, a3, a4⟩ := r1.ok he
    obtain ⟨b1, b2, b3, b4⟩ := r2.ok (hmr.trans he)
    obtain ⟨d1, d2, d3, d4⟩ := r3.ok hg
    have hX := (may_ok he).2.1
    simp only [a3, a4] at c1
    simp only [b3, b4] at c2
    simp only [d3, d4] at c3
    repeat' first
        | (first
            | refine TR.p hP (by first | exact c1) (by repeat' first | exact trivial | (intro _; assumption) | apply And.intro) ?_
            | refine TR.gp hP rfl (fun _ => by first | exact c1) (fun _ => by repeat' first | exact trivial | (intro _; assumption) | apply And.intro) ?_
            | refine TR.pv hP rfl (by first | exact c1) trivial (by repeat' first | exact trivial | (intro _; assumption) | apply And.intro) ?_
           try simp only [vcb, ↓evSo_some, ↓reduceIte, reduceCtorEq, seval])
        | refine And.intro (fun h => ?_) (fun h => ?_)
        | refine And.intro (by first | omega | (simp only [maxLen, decide_eq_true_eq, decide_eq_false_iff_not] at *; omega)) ?_
        | (refine TR.aslO rfl rfl rfl rfl trivial (Nat.le_of_ble_eq_true rfl) ?_
           try simp only [vcb, ↓evSo_some, ↓reduceIte, reduceCtorEq, seval])
        | refine And.intro trivial ?_
        | refine And.intro rfl ?_
        | fail
    refine TR.wk _ (Wk.pub 1001 rfl) ?_
    simp only [vcb, ↓evSo_some, ↓reduceIte, reduceCtorEq, seval]
    repeat' first
        | (first
            | refine TR.p hP (by first | exact c2 | exact c3) (by repeat' first | exact trivial | (intro _; assumption) | apply And.intro) ?_
            | refine TR.gp hP rfl (fun _ => by first | exact c2 | exact c3) (fun _ => by repeat' first | exact trivial | (intro _; assumption) | apply And.intro) ?_
            | refine TR.pv hP rfl (by first | exact c2 | exact c3) trivial (by repeat' first | exact trivial | (intro _; assumption) | apply And.intro) ?_
           try simp only [bne_self_eq_false, vcb, ↓evSo_some, ↓reduceIte, reduceCtorEq, seval])
        | refine And.intro (fun h => ?_) (fun h => ?_)
        | refine And.intro (by first | omega | (simp only [maxLen, decide_eq_true_eq, decide_eq_false_iff_not] at *; omega)) ?_
        | (refine TR.aslO rfl rfl rfl rfl trivial (Nat.le_of_ble_eq_true rfl) ?_
           try simp only [bne_self_eq_false, vcb, ↓evSo_some, ↓reduceIte, reduceCtorEq, seval])
        | refine And.intro trivial ?_
        | refine And.intro rfl ?_
        | fail
    clear c1 c2 c3 o1 o2 o3 r1 r2 r3
    have hA1 : A1.length = l.length := a4
    have hA2 : A2.length = l.length := b4
    have hA3 : A3.length = l.length := d4
    have hG1 : G1.length = l.length := a3
    have hg20 : ∀ (j : Nat) (g : List (Int × Int)), G1[j]? = some g → g.length ≤ 4 ∧ ∀ p, p ∈ g → 0 < p.2 := fun j g hj => by
      obtain ⟨tw, hpm⟩ := tower_ok he
      have hjl : j < l.length := by have := (List.getElem?_eq_some_iff.1 hj).1; omega
      rw [a1] at hj
      have h1 := tw.sw.gl j g hj
      rw [if_neg (Nat.not_lt_zero j), hpm.length_eq] at h1
      refine ⟨by omega, fun p hp => (tw.P j hjl p ?_).1⟩
      rw [List.getD_eq_getElem?_getD, hj]; exact hp
    have hfin : ∀ j, j < l.length → (qs.map (nQ (l.getD j default))).sum ≤ (l.getD j default).amt → A1.getD j 0 = (l.getD j default).amt - (qs.map (nQ (l.getD j default))).sum ∧ ((G1.getD j []).map (·.2)).sum = (qs.map (nQ (l.getD j default))).sum ∧ A2.getD j 0 = A1.getD j 0 := fun j hj hle => by
      have f1 := tower_quotas he hqk hj hle
      have hs : (bk.map (nQ (l.getD j default))).sum = (qs.map (nQ (l.getD j default))).sum := sum_perm (hbq.map _)
      have f2 := tower_quotas (hmr.trans he) (fun q hq => hqk q (hbq.mem_iff.1 hq)) hj (by rw [hs]; exact hle)
      rw [a2, a1, b2, f1.1, f1.2, f2.1, hs]
      exact ⟨rfl, rfl, rfl⟩
    have hnil : ∀ j, j < l.length → A3.getD j 0 = (l.getD j default).amt := fun j hj => by rw [d2]; exact tower_nil hj
    clear a1 a2 b1 b2 d1 d2
    refine vcC.loop (X := Nat) (fun i => ⟨[(1, .d (slX l)), (5, .d (.bool true)), (7, .d (slT qs)), (12, .d (gC G1)), (13, .d (slK .i64 A1)), (14, .d (.int .i64 0)), (16, .d (slK .i64 A2)), (19, .d (slK .i64 A3)), (21, .d (.int .i64 i))], [], []⟩)
      (fun i => i ≤ l.length) (fun i => l.length - i) 0 (Nat.zero_le _) (Wk.of _ hfn rfl (by simp only [slT, slX, slK, gC, hA1, hA2, hA3, hG1, enb, vcb, ↓evSo_some, ↓reduceIte, reduceCtorEq, seval]) (by simp only [enb, vcb, ↓evSo_some, ↓reduceIte, reduceCtorEq, seval])) ?_
    rintro i hi
    simp only [slT, slX, gC, hA1, hA2, hA3, hG1, vcb, ↓evSo_some, ↓reduceIte, reduceCtorEq, seval]
    refine ⟨fun h => ?_, fun h => ?_⟩
    · have hlt : i < l.length := by have := of_decide_eq_true h; omega
      have ewi : IntKind.i64.wrap ((i : Int) + 1) = ((i + 1 : Nat) : Int) := wS (by omega)
      have e := hnil i hlt
      clear h
      simp only [e, bne_self_eq_false, vcb, ↓evSo_some, ↓reduceIte, reduceCtorEq, seval]
      repeat' first
          | refine And.intro (fun h => ?_) (fun h => ?_)
          | refine And.intro (by first | omega | (simp only [maxLen, decide_eq_true_eq, decide_eq_false_iff_not] at *; omega)) ?_
          | (refine TR.aslO rfl rfl rfl rfl trivial (Nat.le_of_ble_eq_true rfl) ?_
             try simp only [e, bne_self_eq_false, vcb, ↓evSo_some, ↓reduceIte, reduceCtorEq, seval])
          | refine And.intro trivial ?_
          | refine And.intro rfl ?_
          | fail
      exact lopK.on (i + 1) hlt (by omega) (Wk.of _ hfn rfl (by simp only [slT, slX, gC, hA1, hA2, hA3, hG1, ewi, enb, vcb, ↓evSo_some, ↓reduceIte, reduceCtorEq, seval]) (by simp only [enb, vcb, ↓evSo_some, ↓reduceIte, reduceCtorEq, seval]))
    clear hi
    clear h
    try simp only [bne_self_eq_false, vcb, ↓evSo_some, ↓reduceIte, reduceCtorEq, seval]
    refine vcC.loop (X := Nat) (fun i => ⟨[(1, .d (slX l)), (5, .d (.bool true)), (7, .d (slT qs)), (12, .d (gC G1)), (13, .d (slK .i64 A1)), (16, .d (slK .i64 A2)), (22, .d (.int .i64 i))], [], []⟩)
      (fun i => i ≤ l.length) (fun i => l.length - i) 0 (Nat.zero_le _) (Wk.of _ hfn rfl (by simp only [slT, slX, slK, gC, hA1, hA2, hA3, hG1, enb, vcb, ↓evSo_some, ↓reduceIte, reduceCtorEq, seval]) (by simp only [enb, vcb, ↓evSo_some, ↓reduceIte, reduceCtorEq, seval])) ?_
    rintro i hi
    simp only [slT, slX, gC, hA1, hA2, hG1, vcb, ↓evSo_some, ↓reduceIte, reduceCtorEq, seval]
    refine ⟨fun h => ?_, fun h => ?_⟩
    · have hlt : i < l.length := by have := of_decide_eq_true h; omega
      have ewi : IntKind.i64.wrap ((i : Int) + 1) = ((i + 1 : Nat) : Int) := wS (by omega)
      obtain ⟨x, -, hx, hxm, -⟩ := drop_at hlt
      obtain ⟨g, -, hgd, hgm, hat⟩ := drop_at (show i < G1.length by omega)
      obtain ⟨gl, gp⟩ := hg20 i g hat
      have hb := get_of hlt hX
      have hf2 := hfin i hlt
      rw [hx] at hb hf2
      rw [hgd] at hf2
      clear h
      have hlast := nQ_take hb.1 qs qs.length
      rw [List.take_length] at hlast
      refine vcC.loop (X := Nat) (fun k => ⟨[(1, .d (slX l)), (5, .d (.bool true)), (7, .d (slT qs)), (12, .d (gC G1)), (13, .d (slK .i64 A1)), (16, .d (slK .i64 A2)), (22, .d (.int .i64 i)), (23, .d (.int .i64 ((qs.take k).map (nQ x)).sum)), (24, .d (.int .i64 k))], [], []⟩)
        (fun k => k ≤ qs.length) (fun k => qs.length - k) 0 (Nat.zero_le _) (Wk.of _ hfn rfl (by simp only [slT, slX, gC, hA1, hA2, hG1, List.take_zero, List.map_nil, List.sum_nil, enb, vcb, ↓evSo_some, ↓reduceIte, reduceCtorEq, seval]) (by simp only [enb, vcb, ↓evSo_some, ↓reduceIte, reduceCtorEq, seval])) ?_
      rintro k hk
      simp only [slT, slX, gC, hA1, hA2, hG1, vcb, ↓evSo_some, ↓reduceIte, reduceCtorEq, seval]
      refine ⟨fun h => ?_, fun h => ?_⟩
      · have hlt2 : k < qs.length := by have := of_decide_eq_true h; omega
        obtain ⟨q, hd2, hq, hqm, hat2⟩ := drop_at hlt2
        have htk : qs.take (k + 1) = qs.take k ++ [q] := by rw [List.take_add_one, hat2]; rfl
        have hs1 : ((qs.take (k + 1)).map (nQ x)).sum = ((qs.take k).map (nQ x)).sum + (bearsQ q x).1 := by rw [htk, List.map_append, List.sum_append]; simp [nQ]
        have hk0 := nQ_take hb.1 qs k
        have hk1 := nQ_take hb.1 qs (k + 1)
        have hm4 : x.amt * ((k + 1 : Nat) : Int) ≤ 1000000000000000 * 4 := Int.mul_le_mul (by omega) (by omega) (by omega) (by omega)
        have ew : IntKind.i64.wrap (((qs.take k).map (nQ x)).sum + (bearsQ q x).1) = ((qs.take (k + 1)).map (nQ x)).sum := by rw [← hs1]; exact wI (by omega)
        have ewk : IntKind.i64.wrap ((k : Int) + 1) = ((k + 1 : Nat) : Int) := wS (by omega)
        have cq := q31 q x
        simp only [vT, cT, vX, cX'] at cq
        clear h hk0 hk1 hm4
        simp only [hq, hx, vcb, ↓evSo_some, ↓reduceIte, reduceCtorEq, seval]
        repeat' first
            | (first
                | refine TR.p hP (by first | exact cq) (by repeat' first | exact trivial | (intro _; assumption) | apply And.intro) ?_
                | refine TR.gp hP rfl (fun _ => by first | exact cq) (fun _ => by repeat' first | exact trivial | (intro _; assumption) | apply And.intro) ?_
                | refine TR.pv hP rfl (by first | exact cq) trivial (by repeat' first | exact trivial | (intro _; assumption) | apply And.intro) ?_
               try simp only [hq, hx, vcb, ↓evSo_some, ↓reduceIte, reduceCtorEq, seval])
            | refine And.intro (fun h => ?_) (fun h => ?_)
            | refine And.intro (by first | omega | (simp only [maxLen, decide_eq_true_eq, decide_eq_false_iff_not] at *; omega)) ?_
            | (refine TR.aslO rfl rfl rfl rfl trivial (Nat.le_of_ble_eq_true rfl) ?_
               try simp only [hq, hx, vcb, ↓evSo_some, ↓reduceIte, reduceCtorEq, seval])
            | refine And.intro trivial ?_
            | refine And.intro rfl ?_
            | fail
        exact lopK.on (k + 1) hlt2 (by omega) (Wk.of _ hfn rfl (by simp only [slT, slX, gC, hA1, hA2, hG1, ew, ewk, enb, vcb, ↓evSo_some, ↓reduceIte, reduceCtorEq, seval]) (by simp only [enb, vcb, ↓evSo_some, ↓reduceIte, reduceCtorEq, seval]))
      have hkl : k = qs.length := by have := of_decide_eq_false h; omega
      subst hkl
      rw [List.take_length]
      clear h hk
      simp only [hx, vcb, ↓evSo_some, ↓reduceIte, reduceCtorEq, seval]
      refine ⟨⟨by omega, by omega⟩, fun h => ?_, fun h => ?_⟩
      · exact lopK.on (i + 1) hlt (by omega) (Wk.of _ hfn rfl (by simp only [slT, slX, gC, hA1, hA2, hG1, ewi, enb, vcb, ↓evSo_some, ↓reduceIte, reduceCtorEq, seval]) (by simp only [enb, vcb, ↓evSo_some, ↓reduceIte, reduceCtorEq, seval]))
      have hle : (qs.map (nQ x)).sum ≤ x.amt := by have := of_decide_eq_false h; omega
      obtain ⟨f1, f2, f3⟩ := hf2 hle
      clear h hf2 hfin hnil
      have hpos := pos_take gp g.length
      rw [List.take_length] at hpos
      refine vcC.loop (X := Nat) (fun m => ⟨[(1, .d (slX l)), (5, .d (.bool true)), (7, .d (slT qs)), (12, .d (gC G1)), (13, .d (slK .i64 A1)), (16, .d (slK .i64 A2)), (22, .d (.int .i64 i)), (23, .d (.int .i64 (qs.map (nQ x)).sum)), (27, .d (.int .i64 ((g.take m).map (·.2)).sum)), (28, .d (.int .i64 m))], [], []⟩)
        (fun m => m ≤ g.length) (fun m => g.length - m) 0 (Nat.zero_le _) (Wk.of _ hfn rfl (by simp only [slT, slX, gC, hA1, hA2, hG1, List.take_zero, List.map_nil, List.sum_nil, enb, vcb, ↓evSo_some, ↓reduceIte, reduceCtorEq, seval]) (by simp only [enb, vcb, ↓evSo_some, ↓reduceIte, reduceCtorEq, seval])) ?_
      rintro m hm
      simp only [slT, slX, gC, hA1, hA2, hG1, nestD, hgd, vcb, ↓evSo_some, ↓reduceIte, reduceCtorEq, seval]
      refine ⟨⟨by omega, by omega⟩, fun h => ?_, fun h => ?_⟩
      · have hlt3 : m < g.length := by have := of_decide_eq_true h; omega
        obtain ⟨p, hd3, hp, hpm, hat3⟩ := drop_at hlt3
        have htk : g.take (m + 1) = g.take m ++ [p] := by rw [List.take_add_one, hat3]; rfl
        have hs1 : ((g.take (m + 1)).map (·.2)).sum = ((g.take m).map (·.2)).sum + p.2 := by rw [htk, List.map_append, List.sum_append]; simp
        have hk0 := pos_take gp m
        have hk1 := pos_take gp (m + 1)
        have ew : IntKind.i64.wrap (((g.take m).map (·.2)).sum + p.2) = ((g.take (m + 1)).map (·.2)).sum := by rw [← hs1]; exact wI (by omega)
        have ewm : IntKind.i64.wrap ((m : Int) + 1) = ((m + 1 : Nat) : Int) := wS (by omega)
        clear h
        simp only [hp, cC, nestD, hgd, ew, vcb, ↓evSo_some, ↓reduceIte, reduceCtorEq, seval]
        repeat' first
            | refine And.intro (fun h => ?_) (fun h => ?_)
            | refine And.intro (by first | omega | (simp only [maxLen, decide_eq_true_eq, decide_eq_false_iff_not] at *; omega)) ?_
            | (refine TR.aslO rfl rfl rfl rfl trivial (Nat.le_of_ble_eq_true rfl) ?_
               try simp only [nestD, hgd, hp, cC, ew, vcb, ↓evSo_some, ↓reduceIte, reduceCtorEq, seval])
            | refine And.intro trivial ?_
            | refine And.intro rfl ?_
            | fail
        exact lopK.on (m + 1) hlt3 (by omega) (Wk.of _ hfn rfl (by simp only [slT, slX, gC, hA1, hA2, hG1, ewm, enb, vcb, ↓evSo_some, ↓reduceIte, reduceCtorEq, seval]) (by simp only [enb, vcb, ↓evSo_some, ↓reduceIte, reduceCtorEq, seval]))
      have hml : m = g.length := by have := of_decide_eq_false h; omega
      subst hml
      rw [List.take_length, f2]
      clear h hm
      have ew : IntKind.i64.wrap (x.amt - (qs.map (nQ x)).sum) = x.amt - (qs.map (nQ x)).sum := wI (by omega)
      simp only [bne_self_eq_false, f3, f1, hx, ew, vcb, ↓evSo_some, ↓reduceIte, reduceCtorEq, seval]
      repeat' first
          | refine And.intro (fun h => ?_) (fun h => ?_)
          | refine And.intro (by first | omega | (simp only [maxLen, decide_eq_true_eq, decide_eq_false_iff_not] at *; omega)) ?_
          | (refine TR.aslO rfl rfl rfl rfl trivial (Nat.le_of_ble_eq_true rfl) ?_
             try simp only [bne_self_eq_false, f3, f1, hx, ew, vcb, ↓evSo_some, ↓reduceIte, reduceCtorEq, seval])
          | refine And.intro trivial ?_
          | refine And.intro rfl ?_
          | fail
      exact lopK.on (i + 1) hlt (by omega) (Wk.of _ hfn rfl (by simp only [slT, slX, gC, hA1, hA2, hG1, ewi, enb, vcb, ↓evSo_some, ↓reduceIte, reduceCtorEq, seval]) (by simp only [enb, vcb, ↓evSo_some, ↓reduceIte, reduceCtorEq, seval]))
    · repeat' first
          | refine And.intro (fun h => ?_) (fun h => ?_)
          | refine And.intro (by first | omega | (simp only [maxLen, decide_eq_true_eq, decide_eq_false_iff_not] at *; omega)) ?_
          | (refine TR.aslO rfl rfl rfl rfl trivial (Nat.le_of_ble_eq_true rfl) ?_
             try simp only [vcb, ↓evSo_some, ↓reduceIte, reduceCtorEq, seval])
          | refine And.intro trivial ?_
          | refine And.intro rfl ?_
          | fail
      exact RetK.pure (by simp only [rs6, rsb, vcb, ↓evSo_some, ↓reduceIte, reduceCtorEq, seval]) (by (simp only [rs6, rsb, vcb, ↓evSo_some, ↓reduceIte, reduceCtorEq, seval, enb, vcb, ↓evSo_some, ↓reduceIte, reduceCtorEq, seval]) <;> (first | rfl))
  · obtain ⟨a1, a2⟩ := r1.no he
    obtain ⟨b1, b2⟩ := r2.no (by rw [hmr]; exact he)
    subst a1; subst a2; subst b1; subst b2
    have e1 : (mayT qs l == 0) = false := by simpa using he
    have e2 : (mayT qs l != 0) = true := by simpa using he
    simp only [List.length_nil] at c1 c2
    generalize mayT qs l = e at *
    by_cases hg : mayT [] l = 0
    · obtain ⟨d1, d2, d3, d4⟩ := r3.ok hg
      rw [hg] at c3
      simp only [d3, d4] at c3
      have hnil : ∀ j, j < l.length → A3.getD j 0 = (l.getD j default).amt := fun j hj => by rw [d2]; exact tower_nil hj
      repeat' first
          | (first
              | refine TR.p hP (by first | exact c1) (by repeat' first | exact trivial | (intro _; assumption) | apply And.intro) ?_
              | refine TR.gp hP rfl (fun _ => by first | exact c1) (fun _ => by repeat' first | exact trivial | (intro _; assumption) | apply And.intro) ?_
              | refine TR.pv hP rfl (by first | exact c1) trivial (by repeat' first | exact trivial | (intro _; assumption) | apply And.intro) ?_
             try simp only [vcb, ↓evSo_some, ↓reduceIte, reduceCtorEq, seval])
          | refine And.intro (fun h => ?_) (fun h => ?_)
          | refine And.intro (by first | omega | (simp only [maxLen, decide_eq_true_eq, decide_eq_false_iff_not] at *; omega)) ?_
          | (refine TR.aslO rfl rfl rfl rfl trivial (Nat.le_of_ble_eq_true rfl) ?_
             try simp only [vcb, ↓evSo_some, ↓reduceIte, reduceCtorEq, seval])
          | refine And.intro trivial ?_
          | refine And.intro rfl ?_
          | fail
      refine TR.wk _ (Wk.pub 1001 rfl) ?_
      simp only [vcb, ↓evSo_some, ↓reduceIte, reduceCtorEq, seval]
      repeat' first
          | (first
              | refine TR.p hP (by first | exact c2 | exact c3) (by repeat' first | exact trivial | (intro _; assumption) | apply And.intro) ?_
              | refine TR.gp hP rfl (fun _ => by first | exact c2 | exact c3) (fun _ => by repeat' first | exact trivial | (intro _; assumption) | apply And.intro) ?_
              | refine TR.pv hP rfl (by first | exact c2 | exact c3) trivial (by repeat' first | exact trivial | (intro _; assumption) | apply And.intro) ?_
             try simp only [bne_self_eq_false, e1, e2, vcb, ↓evSo_some, ↓reduceIte, reduceCtorEq, seval])
          | refine And.intro (fun h => ?_) (fun h => ?_)
          | refine And.intro (by first | omega | (simp only [maxLen, decide_eq_true_eq, decide_eq_false_iff_not] at *; omega)) ?_
          | (refine TR.aslO rfl rfl rfl rfl trivial (Nat.le_of_ble_eq_true rfl) ?_
             try simp only [bne_self_eq_false, e1, e2, vcb, ↓evSo_some, ↓reduceIte, reduceCtorEq, seval])
          | refine And.intro trivial ?_
          | refine And.intro rfl ?_
          | fail
      clear c1 c2 c3 o1 o2 o3 r1 r2 r3 d1 d2
      refine vcC.loop (X := Nat) (fun i => ⟨[(1, .d (slX l)), (5, .d (.bool true)), (14, .d (.int .i64 e)), (19, .d (slK .i64 A3)), (21, .d (.int .i64 i))], [], []⟩)
        (fun i => i ≤ l.length) (fun i => l.length - i) 0 (Nat.zero_le _) (Wk.of _ hfn rfl (by simp only [slX, slK, d4, enb, vcb, ↓evSo_some, ↓reduceIte, reduceCtorEq, seval]) (by simp only [enb, vcb, ↓evSo_some, ↓reduceIte, reduceCtorEq, seval])) ?_
      rintro i hi
      simp only [slX, d4, e2, vcb, ↓evSo_some, ↓reduceIte, reduceCtorEq, seval]
      refine ⟨fun h => ?_, fun h => ?_⟩
      · have hlt : i < l.length := by have := of_decide_eq_true h; omega
        have ewi : IntKind.i64.wrap ((i : Int) + 1) = ((i + 1 : Nat) : Int) := wS (by omega)
        have e := hnil i hlt
        clear h
        simp only [e, bne_self_eq_false, vcb, ↓evSo_some, ↓reduceIte, reduceCtorEq, seval]
        repeat' first
            | refine And.intro (fun h => ?_) (fun h => ?_)
            | refine And.intro (by first | omega | (simp only [maxLen, decide_eq_true_eq, decide_eq_false_iff_not] at *; omega)) ?_
            | (refine TR.aslO rfl rfl rfl rfl trivial (Nat.le_of_ble_eq_true rfl) ?_
               try simp only [e, bne_self_eq_false, vcb, ↓evSo_some, ↓reduceIte, reduceCtorEq, seval])
            | refine And.intro trivial ?_
            | refine And.intro rfl ?_
            | fail
        exact lopK.on (i + 1) hlt (by omega) (Wk.of _ hfn rfl (by simp only [slX, d4, ewi, enb, vcb, ↓evSo_some, ↓reduceIte, reduceCtorEq, seval]) (by simp only [enb, vcb, ↓evSo_some, ↓reduceIte, reduceCtorEq, seval]))
      · exact RetK.pure (by simp only [rs6, rsb, vcb, ↓evSo_some, ↓reduceIte, reduceCtorEq, seval]) (by (simp only [rs6, rsb, vcb, ↓evSo_some, ↓reduceIte, reduceCtorEq, seval, enb, vcb, ↓evSo_some, ↓reduceIte, reduceCtorEq, seval]) <;> (first | rfl))
    · have e3 : (mayT [] l == 0) = false := by simpa using hg
      repeat' first
          | (first
              | refine TR.p hP (by first | exact c1) (by repeat' first | exact trivial | (intro _; assumption) | apply And.intro) ?_
              | refine TR.gp hP rfl (fun _ => by first | exact c1) (fun _ => by repeat' first | exact trivial | (intro _; assumption) | apply And.intro) ?_
              | refine TR.pv hP rfl (by first | exact c1) trivial (by repeat' first | exact trivial | (intro _; assumption) | apply And.intro) ?_
             try simp only [vcb, ↓evSo_some, ↓reduceIte, reduceCtorEq, seval])
          | refine And.intro (fun h => ?_) (fun h => ?_)
          | refine And.intro (by first | omega | (simp only [maxLen, decide_eq_true_eq, decide_eq_false_iff_not] at *; omega)) ?_
          | (refine TR.aslO rfl rfl rfl rfl trivial (Nat.le_of_ble_eq_true rfl) ?_
             try simp only [vcb, ↓evSo_some, ↓reduceIte, reduceCtorEq, seval])
          | refine And.intro trivial ?_
          | refine And.intro rfl ?_
          | fail
      refine TR.wk _ (Wk.pub 1001 rfl) ?_
      simp only [vcb, ↓evSo_some, ↓reduceIte, reduceCtorEq, seval]
      repeat' first
          | (first
              | refine TR.p hP (by first | exact c2 | exact c3) (by repeat' first | exact trivial | (intro _; assumption) | apply And.intro) ?_
              | refine TR.gp hP rfl (fun _ => by first | exact c2 | exact c3) (fun _ => by repeat' first | exact trivial | (intro _; assumption) | apply And.intro) ?_
              | refine TR.pv hP rfl (by first | exact c2 | exact c3) trivial (by repeat' first | exact trivial | (intro _; assumption) | apply And.intro) ?_
             try simp only [bne_self_eq_false, e1, e2, e3, vcb, ↓evSo_some, ↓reduceIte, reduceCtorEq, seval])
          | refine And.intro (fun h => ?_) (fun h => ?_)
          | refine And.intro (by first | omega | (simp only [maxLen, decide_eq_true_eq, decide_eq_false_iff_not] at *; omega)) ?_
          | (refine TR.aslO rfl rfl rfl rfl trivial (Nat.le_of_ble_eq_true rfl) ?_
             try simp only [bne_self_eq_false, e1, e2, e3, vcb, ↓evSo_some, ↓reduceIte, reduceCtorEq, seval])
          | refine And.intro trivial ?_
          | refine And.intro rfl ?_
          | fail
      exact RetK.pure (by simp only [rs6, rsb, vcb, ↓evSo_some, ↓reduceIte, reduceCtorEq, seval]) (by (simp only [rs6, rsb, vcb, ↓evSo_some, ↓reduceIte, reduceCtorEq, seval, enb, vcb, ↓evSo_some, ↓reduceIte, reduceCtorEq, seval]) <;> (first | rfl))
end Go.Proofs.Ytgpckelpmincmaa
end
section
set_option linter.unusedSimpArgs false
set_option linter.unusedVariables false
namespace Go.Proofs.Ytgpckelpmincmaa
set_option linter.unusedSimpArgs false
set_option linter.unusedVariables false
open Go.ChangeShapes Go.WideShapes Go.ChangeAt Go.RowKit Go.Bx
set_option maxRecDepth 100000
theorem towerQuotas_lifted (os : Os) (started : os.Started) (H : Type) (enc : TypeId × Value → H) :
    ReturnsInHanded {} Try.checked os 6 .any (Rows.towerQuotasSpec.pre6 enc Try.prog Try.f6 Rows.towerQuotasRow.domain false) (Rows.towerQuotasSpec.post enc Try.prog Try.f6 false true false false) := by
  refine returnsInHanded_of_change (C := Try.checked) Try.own started (by kernel_rfl) Try.func6
    (ChangeSpec.witness6 (enc := enc) (C := Try.checked) false ⟨#[], #[.slice none 0 0, .slice none 0 0], []⟩ 8 (by kernel_rfl) (by kernel_rfl) (by kernel_rfl) (by kernel_rfl)) ?_
  intro W base args ds gs before hval hW _ _
  refine law_calls (tb := 4) Try.laidOut (by kernel_rfl) (by kernel_rfl) Try.underlying4 rfl ?_ ?_ W base args ds gs before hval hW
  · intro ds hd
    match ds, hd with
    | [_, _], _ => rfl
  · intro W base args ds p hval hA
    rw [show Try.f6.params.toList = [22, 23] by kernel_rfl] at hA
    obtain ⟨v0, v1, d0, d1, p0, p1, rfl, rfl, _, h0, h1⟩ := trodAll_two hA
    obtain ⟨ts, tsk, r0⟩ := treaties_reads.cell (by kernel_rfl) (hval 0 22 v0 rfl rfl) h0
    obtain ⟨l, lk, r1⟩ := losses_reads.cell (by kernel_rfl) (hval 1 23 v1 rfl rfl) h1
    exact ⟨[.d (slT ts), .d (slX l)], rfl, rel2 r0 r1, lQuotas ts l⟩
theorem towerQuotas_holds : Rows.TowerQuotasSaid :=
  OpenClaim.holds_of_wide 6 Try.f6 rfl rfl rfl rfl rfl rfl rfl ⟨rfl, rfl, rfl, rfl, rfl⟩ rfl rfl rfl rfl rfl (by kernel_rfl) Try.func6 (by kernel_rfl)
    (of_decide_eq_true (by kernel_rfl)) (by unfold Func.isWrapper; first | (rw [if_pos (by decide +kernel)]; kernel_rfl) | (rw [if_neg (by decide +kernel)]; exact ⟨rfl, rfl⟩))
    (fun os started H enc _ => towerQuotas_lifted os started H enc)
end Go.Proofs.Ytgpckelpmincmaa
end
