import Derived.Test.YtgpckelpmincmaaXE10
section
set_option linter.unusedSimpArgs false
set_option linter.unusedVariables false
namespace Go.Proofs.Ytgpckelpmincmaa
set_option linter.unusedSimpArgs false
set_option linter.unusedVariables false
open Go.Bx
set_option maxRecDepth 10000
theorem VLe.slD {full full' : Bool} {sz n : Nat} {f f' : Nat → List D} (hb : full' = true → full = true) (hf : ∀ i, i < n → (f i).length = (f' i).length ∧ ∀ (j : Nat) (x y : D), (f i)[j]? = some x → (f' i)[j]? = some y → VLe (.d x) (.d y)) : VLe (.d (.sl full sz n f)) (.d (.sl full' sz n f')) := by
  intro β E w v hv
  cases hv with
  | d _ _ hv =>
    refine .d _ _ ?_
    generalize hN : n = m at hv ⊢
    cases hv with
    | nil _ _ _ _ => exact .nil _ _ _ _
    | sl _ _ _ _ b off c g hc hfu hl hcell hrel =>
      subst hN
      refine .sl _ _ _ _ b off c g hc (fun h => hfu (hb h)) (fun i hi => by rw [← (hf i hi).1]; exact hl i hi) hcell (fun i j hi hj y hy => ?_)
      have hlt : j < (f i).length := by rw [hl i hi]; exact hj
      have h1 := hrel i j hi hj _ (List.getElem?_eq_getElem hlt)
      have h2 := (hf i hi).2 j _ y (List.getElem?_eq_getElem hlt) hy
      exact rel_d (h2 β E w _ (.d _ _ h1))
def exT : List Tr := [⟨2, 2, 1, 100, 0, 100, 50, 0, 1⟩, ⟨1, 1, 1, 100, 5000, 0, 0, 0, 1⟩]
def exL : List Ls := [⟨1, 0, 5, 0, 260⟩]
theorem ex_of : ofT exT exL = ([[(1, 130), (2, 30)]], [100], 0) := by
  have h1 : mayT exT exL = 0 := by decide +kernel
  have h2 : refT exT exL = ([100], [[(1, 130), (2, 30)]]) := by decide +kernel
  rw [ofT, if_neg (by rw [h1]; simp), tower_ref, h2]
theorem ex_order : orderT exT = [1, 0] := by rw [order_eq]; decide +kernel
theorem ex_sums : sumsT exT [[(1, 130), (2, 30)]] = [30, 130] := by decide +kernel
def eT : V := .d (.sl true 9 2 (litRow 9 [.int .i64 2, .int .i64 2, .int .i64 1, .int .i64 100, .int .i64 0, .int .i64 100, .int .i64 50, .int .i64 0, .int .i64 1, .int .i64 1, .int .i64 1, .int .i64 1, .int .i64 100, .int .i64 5000, .int .i64 0, .int .i64 0, .int .i64 0, .int .i64 1]))
def eL : V := .d (.sl true 5 1 (litRow 5 [.int .i64 1, .int .i64 0, .int .i64 5, .int .i64 0, .int .i64 260]))
def eC : V := .d (.sl true 1 1 (litRow 1 [.sl true 2 2 (litRow 2 [.int .i64 1, .int .i64 130, .int .i64 2, .int .i64 30])]))
def eI1 : V := .d (.sl true 1 1 (litRow 1 [.int .i64 100]))
def eI2 : V := .d (.sl true 1 2 (litRow 1 [.int .i64 1, .int .i64 0]))
def eI3 : V := .d (.sl true 1 2 (litRow 1 [.int .i64 30, .int .i64 130]))
theorem vle_exT : VLe eT (.d (slT exT)) :=
  VLe.sl rfl (fun _ => rfl) (fun h => by cases h) fun i hi => by
    have : i = 0 ∨ i = 1 := by omega
    rcases this with rfl | rfl <;> rfl
theorem vle_exL : VLe eL (.d (slX exL)) :=
  VLe.sl rfl (fun _ => rfl) (fun h => by cases h) fun i hi => by
    have : i = 0 := by omega
    subst this; rfl
theorem vle_exC : VLe eC (.d (gC [[(1, 130), (2, 30)]])) := by
  refine VLe.slD (fun h => by cases h) fun i hi => ?_
  have : i = 0 := by omega
  subst this
  refine ⟨rfl, fun j x y hx hy => ?_⟩
  have hj : j = 0 := by
    have := (List.getElem?_eq_some_iff.1 hy).1
    simp [nestD] at this; exact this
  subst hj
  simp [litRow] at hx
  simp [nestD] at hy
  subst hx; subst hy
  exact VLe.sl rfl (fun _ => rfl) (fun h => by cases h) fun i hi => by
    have : i = 0 ∨ i = 1 := by omega
    rcases this with rfl | rfl <;> rfl
set_option maxHeartbeats 2000000 in
theorem lAwake : Ctr Try.prog 9 [] [] (.d (.bool true)) [] [] := by
  have c1 := sTOf exT exL (by decide) (by decide)
  rw [ex_of] at c1
  have c1 := c1.arg (args := [eT, eL]) ⟨vle_exT, vle_exL, trivial⟩
  have c2 := sOrder exT (by decide)
  rw [ex_order] at c2
  have c2 := c2.arg (args := [eT]) ⟨vle_exT, trivial⟩
  have c3 := sSums exT [[(1, 130), (2, 30)]] (by decide) (by decide) (by decide)
  rw [ex_sums] at c3
  have c3 := c3.arg (args := [eT, .d (gC [[(1, 130), (2, 30)]])]) ⟨vle_exT, VLe.refl _, trivial⟩
  have c4 := (rSameC [[(1, 130), (2, 30)]] [[(1, 130), (2, 30)]] (by decide) (by decide) (by decide) (by decide)).arg (args := [.d (gC [[(1, 130), (2, 30)]]), eC]) ⟨VLe.refl _, vle_exC, trivial⟩
  have c5 := (s17 [100] [100] (by decide)).arg (args := [.d (slK .i64 [100]), eI1]) ⟨VLe.refl _, LitI.vle (by repeat constructor) (by rfl), trivial⟩
  have c6 := (s17 [1, 0] [1, 0] (by decide)).arg (args := [.d (slK .i64 [1, 0]), eI2]) ⟨VLe.refl _, LitI.vle (by repeat constructor) (by rfl), trivial⟩
  have c7 := (s17 [30, 130] [30, 130] (by decide)).arg (args := [.d (slK .i64 [30, 130]), eI3]) ⟨VLe.refl _, LitI.vle (by repeat constructor) (by rfl), trivial⟩
  simp only [gC, slK, eT, eL, eC, eI1, eI2, eI3, List.length_cons, List.length_nil, Nat.zero_add, Nat.reduceAdd, decide_true] at c1 c2 c3 c4 c5 c6 c7
  refine ctr_pure Try.func9 ok9 rfl cc9 cr9 Try.ntmps9 (by simp) rfl rfl ?_; intro c hP hfn; simp only [kc9, vcb, ↓evSo_some, ↓reduceIte, reduceCtorEq, seval]
  repeat' first
      | (first
          | refine TR.p hP (by first | exact c1 | exact c2 | exact c3 | exact c4 | exact c5 | exact c6 | exact c7) (by repeat' first | exact trivial | (intro _; assumption) | apply And.intro) ?_
          | refine TR.gp hP rfl (fun _ => by first | exact c1 | exact c2 | exact c3 | exact c4 | exact c5 | exact c6 | exact c7) (fun _ => by repeat' first | exact trivial | (intro _; assumption) | apply And.intro) ?_
          | refine TR.pv hP rfl (by first | exact c1 | exact c2 | exact c3 | exact c4 | exact c5 | exact c6 | exact c7) trivial (by repeat' first | exact trivial | (intro _; assumption) | apply And.intro) ?_
         try simp only [vcb, ↓evSo_some, ↓reduceIte, reduceCtorEq, seval])
      | refine And.intro (fun h => ?_) (fun h => ?_)
      | refine And.intro (by first | omega | (simp only [maxLen, decide_eq_true_eq, decide_eq_false_iff_not] at *; omega)) ?_
      | (refine TR.aslO rfl rfl rfl rfl trivial (Nat.le_of_ble_eq_true rfl) ?_
         try simp only [vcb, ↓evSo_some, ↓reduceIte, reduceCtorEq, seval])
      | refine And.intro trivial ?_
      | refine And.intro rfl ?_
      | fail
  exact RetK.pure (by simp only [rs9, rsb, vcb, ↓evSo_some, ↓reduceIte, reduceCtorEq, seval]) (by (simp only [rs9, rsb, vcb, ↓evSo_some, ↓reduceIte, reduceCtorEq, seval, enb, vcb, ↓evSo_some, ↓reduceIte, reduceCtorEq, seval]) <;> (first | simp))
end Go.Proofs.Ytgpckelpmincmaa
end
section
set_option linter.unusedSimpArgs false
set_option linter.unusedVariables false
namespace Go.Proofs.Ytgpckelpmincmaa
set_option linter.unusedSimpArgs false
set_option linter.unusedVariables false
open Go.Bx
set_option maxRecDepth 10000
def amtI (id : Int) (g : List (Int × Int)) : Int := ((g.filter (fun p => p.1 == id)).map (·.2)).sum
def tot (id : Int) (G : List (List (Int × Int))) : Int := (G.map (amtI id)).sum
theorem amtI_snoc (id : Int) (g : List (Int × Int)) (p : Int × Int) : amtI id (g ++ [p]) = amtI id g + (if p.1 = id then p.2 else 0) := by
  unfold amtI
  rw [List.filter_append, List.map_append, List.sum_append]
  congr 1
  by_cases h : p.1 = id
  · rw [if_pos h]; simp [h]
  · rw [if_neg h]; simp [h]
theorem amtI_none {id : Int} {g : List (Int × Int)} (h : ∀ p, p ∈ g → p.1 ≠ id) : amtI id g = 0 := by
  unfold amtI
  rw [List.filter_eq_nil_iff.2 (fun p hp => by simpa using h p hp)]; rfl
theorem sum_le_of : ∀ {a b : List Int}, a.length = b.length → (∀ j, j < a.length → a.getD j 0 ≤ b.getD j 0) → a.sum ≤ b.sum
  | [], [], _, _ => Int.le_refl _
  | [], _ :: _, h, _ => by simp at h
  | _ :: _, [], h, _ => by simp at h
  | x :: a, y :: b, h, hj => by
    have h0 := hj 0 (by simp)
    have h1 := sum_le_of (a := a) (b := b) (by simpa using h) (fun j hjl => by simpa using hj (j + 1) (by simpa using hjl))
    simp only [List.getD_cons_zero] at h0
    simp only [List.sum_cons]; omega
theorem map_getD {α : Type} {f : List α → Int} (h0 : f [] = 0) (G : List (List α)) (j : Nat) : (G.map f).getD j 0 = f (G.getD j []) := by
  simp only [List.getD_eq_getElem?_getD, List.getElem?_map]
  cases h : G[j]? with
  | none => simp [h0]
  | some g => rfl
theorem amtI_nil (id : Int) : amtI id [] = 0 := rfl
structure TwI (l : List Ls) (done : List Tr) (s : Sw) : Prop where
  sw : SwI l done.length 0 s
  W : ∀ j, j < l.length → ((s.2.getD j []).map (·.2)).sum + s.1.getD j 0 = (l.getD j default).amt
  P : ∀ j, j < l.length → ∀ p, p ∈ s.2.getD j [] → 0 < p.2 ∧ ∃ t, t ∈ done ∧ t.id = p.1 ∧ takesT t (l.getD j default) = true ∧ (t.kind = 1 → p.2 ≤ (bearsQ t (l.getD j default)).1)
  N : ∀ j, j < l.length → ((s.2.getD j []).map (·.1)).Nodup
  S : ∀ t, t ∈ done → t.kind ≠ 1 → tot t.id s.2 ≤ roomT t
theorem bearsA_q {t : Tr} (h : t.kind = 1) (l : List Ls) {j : Nat} (hj : j < l.length) : (bearsA t l).getD j 0 = (bearsQ t (l.getD j default)).1 := by
  unfold bearsA
  rw [if_neg (by omega), if_neg (by omega)]
  simp only [List.getD_eq_getElem?_getD, List.getElem?_map, List.getElem?_eq_getElem hj, Option.map_some, Option.getD_some]
theorem TwI.step {l rd : List Ls} {done : List Tr} {s : Sw} (h : TwI l done s) (hX : ∀ x, x ∈ l → lossX x = true) (hl : l.length ≤ 2000) {t : Tr} (ht : rightT t = true) (hid : t.id ∉ done.map (·.id)) (hr : RdOk l rd) (h1 : t.kind = 1 → rd = l) :
    TwI l (done ++ [t]) (swe t.id (bearsA t rd) s) := by
  obtain ⟨b1, b2, b3, b4⟩ := rd_bears hX hl hr ht
  have hget := swe_get t.id b1 h.sw.la h.sw.lg
  have hsw := swp_ok t.id b2 b1 h.sw
  have hq : t.kind = 1 → ∀ j, j < l.length → (bearsA t rd).getD j 0 = (bearsQ t (l.getD j default)).1 := fun hk j hj => by rw [h1 hk]; exact bearsA_q hk l hj
  generalize bearsA t rd = b at *
  have hne : ∀ j, j < l.length → ∀ p, p ∈ s.2.getD j [] → p.1 ≠ t.id := fun j hj p hp e => by
    obtain ⟨-, u, hu, hu2, -⟩ := h.P j hj p hp
    exact hid (List.mem_map.2 ⟨u, hu, by rw [hu2, e]⟩)
  refine ⟨by rw [List.length_append, List.length_singleton]; exact hsw, fun j hj => ?_, fun j hj p hp => ?_, fun j hj => ?_, fun u hu hk => ?_⟩
  · obtain ⟨g1, g2⟩ := hget j hj
    have hw := h.W j hj
    have ha := h.sw.am j
    have hb := b2 j
    rw [g1, g2]
    split
    · rw [List.map_append, List.sum_append]
      simp only [List.map_cons, List.map_nil, List.sum_cons, List.sum_nil]; omega
    · omega
  · obtain ⟨g1, g2⟩ := hget j hj
    rw [g2] at hp
    have old : p ∈ s.2.getD j [] → 0 < p.2 ∧ ∃ u, u ∈ done ++ [t] ∧ u.id = p.1 ∧ takesT u (l.getD j default) = true ∧ (u.kind = 1 → p.2 ≤ (bearsQ u (l.getD j default)).1) := fun hp => by
      obtain ⟨q1, u, q2, q3⟩ := h.P j hj p hp
      exact ⟨q1, u, List.mem_append_left _ q2, q3⟩
    split at hp
    · rename_i hm
      rcases List.mem_append.1 hp with hp | hp
      · exact old hp
      · simp only [List.mem_singleton] at hp
        subst hp
        refine ⟨hm, t, by simp, rfl, ?_, fun hk => ?_⟩
        · cases hh : takesT t (l.getD j default) with
          | true => rfl
          | false => have := b3 j hj hh; omega
        · rw [← hq hk j hj]; exact Int.min_le_left _ _
    · exact old hp
  · obtain ⟨g1, g2⟩ := hget j hj
    rw [g2]
    split
    · rw [List.map_append, List.map_cons, List.map_nil, List.nodup_append]
      refine ⟨h.N j hj, by simp, fun a ha c hc => ?_⟩
      simp only [List.mem_singleton] at hc
      subst hc
      obtain ⟨p, hp, rfl⟩ := List.mem_map.1 ha
      exact hne j hj p hp
    · exact h.N j hj
  · have hlen := hsw.lg
    rcases List.mem_append.1 hu with hu | hu
    · have hnu : u.id ≠ t.id := fun e => hid (List.mem_map.2 ⟨u, hu, e⟩)
      refine Int.le_trans (sum_le_of (by rw [List.length_map, List.length_map, hlen, h.sw.lg]) fun j hj => ?_) (h.S u hu hk)
      rw [List.length_map, hlen] at hj
      rw [map_getD (amtI_nil _), map_getD (amtI_nil _), (hget j hj).2]
      split
      · rw [amtI_snoc, if_neg (fun e => hnu e.symm)]; omega
      · exact Int.le_refl _
    · simp only [List.mem_singleton] at hu
      subst hu
      refine Int.le_trans (sum_le_of (by rw [List.length_map, hlen, b1]) fun j hj => ?_) (b4 hk)
      rw [List.length_map, hlen] at hj
      rw [map_getD (amtI_nil _), (hget j hj).2]
      have h0 : amtI u.id (s.2.getD j []) = 0 := amtI_none (hne j hj)
      have hb := b2 j
      split
      · rw [amtI_snoc, if_pos rfl, h0]
        have := Int.min_le_left (b.getD j 0) (s.1.getD j 0); simp only; omega
      · rw [h0]; exact hb
theorem twrT_ok {l : List Ls} (hX : ∀ x, x ∈ l → lossX x = true) (hl : l.length ≤ 2000) : ∀ (r done : List Tr) (s : Sw) (rd : List Ls) (kd : Int), TwI l done s → (∀ t, t ∈ r → rightT t = true) → ((done ++ r).map (·.id)).Nodup → RdOk l rd → (kd = 1 → rd = l) →
    r.Pairwise (fun a b => a.kind ≤ b.kind) → (∀ t, t ∈ r → kd ≤ t.kind) → 1 ≤ kd → TwI l (done ++ r) (twrT l r s rd kd)
  | [], done, s, rd, kd, h, _, _, _, _, _, _, _ => by rw [List.append_nil, twrT]; exact h
  | t :: r, done, s, rd, kd, h, hR, hN, hr, h1, hp, hk, hk1 => by
    rw [twrT]
    have htk := hk t List.mem_cons_self
    have hpw := List.pairwise_cons.1 hp
    have hr' : RdOk l (if t.kind ≠ kd then withX l s.1 else rd) := by
      split
      · exact RdOk.next h.sw
      · exact hr
    have h1' : t.kind = 1 → (if t.kind ≠ kd then withX l s.1 else rd) = l := fun e => by
      have : kd = 1 := by omega
      rw [if_neg (by omega)]; exact h1 this
    have hid : t.id ∉ done.map (·.id) := by
      rw [List.map_append, List.map_cons, List.nodup_append] at hN
      intro hm
      exact hN.2.2 _ hm _ List.mem_cons_self rfl
    have := twrT_ok hX hl r (done ++ [t]) _ _ t.kind (h.step hX hl (hR t List.mem_cons_self) hid hr' h1') (fun u hu => hR u (List.mem_cons_of_mem _ hu)) (by simpa using hN) hr' h1' hpw.2 hpw.1 (by omega)
    simpa using this
theorem dup_iff : ∀ (ts : List Tr) (seen : List Int), dupT seen ts = false ↔ (∀ t, t ∈ ts → t.id ∉ seen) ∧ (ts.map (·.id)).Nodup
  | [], seen => by simp [dupT]
  | t :: r, seen => by
    rw [dupT]
    by_cases h : t.id ∈ seen
    · rw [if_pos h]
      constructor
      · intro e; cases e
      · intro e; exact absurd h (e.1 t List.mem_cons_self)
    · rw [if_neg h, dup_iff r (t.id :: seen), List.map_cons, List.nodup_cons]
      constructor
      · rintro ⟨h1, h2⟩
        refine ⟨fun u hu => ?_, fun hm => ?_, h2⟩
        · rcases List.mem_cons.1 hu with rfl | hu
          · exact h
          · exact fun e => h1 u hu (List.mem_cons_of_mem _ e)
        · obtain ⟨u, hu, e⟩ := List.mem_map.1 hm
          exact h1 u hu (by rw [e]; exact List.mem_cons_self)
      · rintro ⟨h1, h2, h3⟩
        refine ⟨fun u hu hm => ?_, h3⟩
        rcases List.mem_cons.1 hm with e | hm
        · exact h2 (List.mem_map.2 ⟨u, hu, e⟩)
        · exact h1 u (List.mem_cons_of_mem _ hu) hm
theorem sw0_tw {l : List Ls} (hX : ∀ x, x ∈ l → lossX x = true) : TwI l [] (sw0 l) := by
  have hz : ∀ j, (sw0 l).2.getD j [] = [] := fun j => by
    simp only [sw0, List.getD_eq_getElem?_getD, List.getElem?_replicate]; split <;> rfl
  refine ⟨sw0_ok l hX, fun j hj => ?_, fun j hj p hp => ?_, fun j hj => ?_, fun t ht => ?_⟩
  · rw [hz]
    simp only [sw0, List.map_nil, List.sum_nil, Int.zero_add, List.getD_eq_getElem?_getD, List.getElem?_map, List.getElem?_eq_getElem hj, Option.map_some, Option.getD_some]
  · rw [hz] at hp; simp at hp
  · rw [hz]; simp
  · simp at ht
theorem tower_ok {ts : List Tr} {l : List Ls} (h : mayT ts l = 0) : TwI l (ordL ts) (towerT ts l) ∧ (ordL ts).Perm ts := by
  obtain ⟨hR, hX, h1, h2, h3, -⟩ := may_ok h
  have hp := ordL_perm (ts := ts) (fun t ht => right_kind (hR t ht))
  have hnd := ((dup_iff ts []).1 h3).2
  have hR' : ∀ t, t ∈ ordL ts → rightT t = true := fun t ht => hR t (ordL_mem ht)
  have := twrT_ok hX h2 (ordL ts) [] (sw0 l) l 1 (sw0_tw hX) hR' (by simpa using (hp.map (·.id)).nodup_iff.2 hnd) (RdOk.self hX) (fun _ => rfl) (ordL_kinds ts) (fun t ht => by have := right_kind (hR' t ht); omega) (Int.le_refl _)
  rw [towerT_eq]
  exact ⟨by simpa using this, hp⟩
end Go.Proofs.Ytgpckelpmincmaa
end
section
set_option linter.unusedSimpArgs false
set_option linter.unusedVariables false
namespace Go.Proofs.Ytgpckelpmincmaa
set_option linter.unusedSimpArgs false
set_option linter.unusedVariables false
open Go.Bx
set_option maxRecDepth 10000
theorem flat_len : ∀ {G : List (List (Int × Int))} {n : Nat}, (∀ g, g ∈ G → g.length ≤ n) → G.flatten.length ≤ G.length * n
  | [], _, _ => by simp
  | g :: G, n, h => by
    have h1 := h g List.mem_cons_self
    have h2 := flat_len (G := G) (n := n) (fun x hx => h x (List.mem_cons_of_mem _ hx))
    rw [List.flatten_cons, List.length_append, List.length_cons, Nat.add_mul]; omega
structure OfOk (ts : List Tr) (l : List Ls) (o : List (List (Int × Int)) × List Int × Int) : Prop where
  lg : o.1.length ≤ l.length
  la : o.2.1.length ≤ l.length
  gl : ∀ g, g ∈ o.1 → g.length ≤ ts.length
  fl : o.1.flatten.length ≤ l.length * ts.length
theorem of_ok (ts : List Tr) (l : List Ls) : OfOk ts l (ofT ts l) := by
  unfold ofT
  by_cases h : mayT ts l = 0
  · rw [if_neg (by simp [h])]
    obtain ⟨h1, h2⟩ := tower_ok h
    have hsw := h1.sw
    rw [h2.length_eq] at hsw
    have hg : ∀ g, g ∈ (towerT ts l).2 → g.length ≤ ts.length := fun g hg => by
      obtain ⟨j, hj⟩ := List.mem_iff_getElem?.1 hg
      have := hsw.gl j g hj
      rw [if_neg (Nat.not_lt_zero j)] at this
      exact this
    refine ⟨by rw [hsw.lg]; exact Nat.le_refl _, by rw [hsw.la]; exact Nat.le_refl _, hg, ?_⟩
    have := flat_len hg
    rwa [hsw.lg] at this
  · rw [if_pos h]
    exact ⟨Nat.zero_le _, Nat.zero_le _, fun g hg => by simp at hg, Nat.zero_le _⟩
end Go.Proofs.Ytgpckelpmincmaa
end
section
set_option linter.unusedSimpArgs false
set_option linter.unusedVariables false
namespace Go.Proofs.Ytgpckelpmincmaa
set_option linter.unusedSimpArgs false
set_option linter.unusedVariables false
open Go.Bx
set_option maxRecDepth 10000
theorem any_perm {α : Type} {p : α → Bool} {a b : List α} (h : a.Perm b) : a.any p = b.any p := by
  rw [Bool.eq_iff_iff, List.any_eq_true, List.any_eq_true]
  constructor
  · rintro ⟨x, hx, hp⟩; exact ⟨x, h.mem_iff.1 hx, hp⟩
  · rintro ⟨x, hx, hp⟩; exact ⟨x, h.mem_iff.2 hx, hp⟩
theorem sum_perm {a b : List Int} (h : a.Perm b) : a.sum = b.sum := by
  induction h with
  | nil => rfl
  | cons x _ ih => rw [List.sum_cons, List.sum_cons, ih]
  | swap x y l => simp only [List.sum_cons]; omega
  | trans _ _ ih1 ih2 => exact ih1.trans ih2
theorem dup_perm {ts us : List Tr} (h : ts.Perm us) : dupT [] ts = dupT [] us := by
  have h1 := dup_iff ts []
  have h2 := dup_iff us []
  have h3 := (h.map (·.id)).nodup_iff
  have h4 : dupT [] ts = false ↔ dupT [] us = false := by
    rw [h1, h2, h3]; simp
  cases e1 : dupT [] ts <;> cases e2 : dupT [] us <;> simp_all
theorem over_perm {ts us : List Tr} (h : ts.Perm us) (x : Ls) : overT ts x = overT us x := by
  unfold overT bpsT
  rw [sum_perm ((h.filter _).map _)]
theorem may_perm {ts us : List Tr} (h : ts.Perm us) (l : List Ls) : mayT ts l = mayT us l := by
  unfold mayT
  rw [any_perm h, h.length_eq, dup_perm h, show overT ts = overT us from funext (over_perm h)]
theorem swpS_noop {id : Int} {b : List Int} {i : Nat} {s : Sw} (hb : b.getD i 0 = 0) (hs : 0 ≤ s.1.getD i 0) : swpS id b i s = s := by
  unfold swpS
  rw [hb, show min 0 (s.1.getD i 0) = 0 by omega, if_neg (by omega), Int.sub_zero]
  have : s.1.set i (s.1.getD i 0) = s.1 := by
    apply List.ext_getElem? 
    intro j
    by_cases e : i = j
    · subst e
      by_cases hl : i < s.1.length
      · rw [List.getElem?_set_self hl, List.getD_eq_getElem?_getD, List.getElem?_eq_getElem hl]; rfl
      · rw [List.getElem?_eq_none (by simp; omega), List.getElem?_eq_none (by omega)]
    · rw [List.getElem?_set_ne e]
  rw [this]
theorem swpR_noop {id : Int} {b : List Int} (hb : ∀ i, b.getD i 0 = 0) {s : Sw} (hs : ∀ i, 0 ≤ s.1.getD i 0) : ∀ (n i : Nat), swpR id b n i s = s
  | 0, _ => rfl
  | n + 1, i => by rw [swpR, swpS_noop (hb i) (hs i)]; exact swpR_noop hb hs n (i + 1)
def NoT (l : List Ls) (t : Tr) : Prop := ∀ j, j < l.length → takesT t (l.getD j default) = false
theorem noT_bears {l rd : List Ls} (hX : ∀ x, x ∈ l → lossX x = true) (hl : l.length ≤ 2000) (h : RdOk l rd) {t : Tr} (ht : rightT t = true) (hn : NoT l t) : ∀ i, (bearsA t rd).getD i 0 = 0 := by
  obtain ⟨h1, -, h3, -⟩ := rd_bears hX hl h ht
  intro i
  by_cases hi : i < l.length
  · exact h3 i hi (hn i hi)
  · rw [List.getD_eq_getElem?_getD, List.getElem?_eq_none (by omega)]; rfl
theorem twrT_swi {l : List Ls} (hX : ∀ x, x ∈ l → lossX x = true) (hl : l.length ≤ 2000) {k : Nat} {s : Sw} (h : SwI l k 0 s) {rd : List Ls} (hr : RdOk l rd) {t : Tr} (ht : rightT t = true) : SwI l (k + 1) 0 (swe t.id (bearsA t rd) s) := by
  obtain ⟨b1, b2, -, -⟩ := rd_bears hX hl hr ht
  exact swp_ok t.id b2 b1 h
theorem twrT_noop {l : List Ls} (hX : ∀ x, x ∈ l → lossX x = true) (hl : l.length ≤ 2000) {t : Tr} (ht : rightT t = true) (hn : NoT l t) (B : List Tr) : ∀ (A : List Tr) (k : Nat) (s : Sw) (rd : List Ls) (kd : Int), SwI l k 0 s → RdOk l rd → (∀ u, u ∈ A → rightT u = true) →
    (A ++ t :: B).Pairwise (fun a b => a.kind ≤ b.kind) → (∀ u, u ∈ A ++ t :: B → kd ≤ u.kind) → twrT l (A ++ t :: B) s rd kd = twrT l (A ++ B) s rd kd
  | [], k, s, rd, kd, hs, hr, _, hp, hk => by
    have hr1 : RdOk l (if t.kind ≠ kd then withX l s.1 else rd) := by
      split
      · exact RdOk.next hs
      · exact hr
    rw [List.nil_append, List.nil_append, twrT, swe, swpR_noop (noT_bears hX hl hr1 ht hn) (fun i => (hs.am i).1)]
    have hpt := (List.pairwise_cons.1 hp).1
    have hkt := hk t List.mem_cons_self
    cases B with
    | nil => rfl
    | cons u B =>
      have hu := hpt u List.mem_cons_self
      rw [twrT, twrT]
      have e : (if u.kind ≠ t.kind then withX l s.1 else (if t.kind ≠ kd then withX l s.1 else rd)) = (if u.kind ≠ kd then withX l s.1 else rd) := by
        by_cases h1 : t.kind = kd
        · rw [h1]; simp
        · rw [if_pos h1, if_pos (show u.kind ≠ kd by omega)]; simp
      rw [e]
  | a :: A, k, s, rd, kd, hs, hr, hA, hp, hk => by
    rw [List.cons_append, List.cons_append, twrT, twrT]
    rw [List.cons_append] at hp hk
    have hpa := List.pairwise_cons.1 hp
    have hr1 : RdOk l (if a.kind ≠ kd then withX l s.1 else rd) := by
      split
      · exact RdOk.next hs
      · exact hr
    exact twrT_noop hX hl ht hn B A (k + 1) _ _ a.kind (twrT_swi hX hl hs hr1 (hA a List.mem_cons_self)) hr1 (fun u hu => hA u (List.mem_cons_of_mem _ hu)) hpa.2 hpa.1
def shP (p : Pl) : Pl := ⟨p.k, p.a, p.i + 1⟩
theorem plT_one {t : Tr} (h : t.kind = 1 ∨ t.kind = 2 ∨ t.kind = 3) : ∃ a, (t.kind = 1 → a = 0) ∧ (t.kind ≠ 1 → a = t.att) ∧ ∀ i : Nat, plT t i = [⟨t.kind, a, i⟩] := by
  by_cases e : t.kind = 1
  · exact ⟨0, fun _ => rfl, fun h => absurd e h, fun i => by rw [plT, if_pos e]⟩
  · exact ⟨t.att, fun h => absurd h e, fun _ => rfl, fun i => by rw [plT, if_neg e, if_pos (by omega)]⟩
theorem plT_shift (t : Tr) (i : Nat) : plT t (i + 1) = (plT t i).map shP := by
  unfold plT
  split
  · simp [shP]
  · split
    · simp [shP]
    · rfl
theorem plsT_shift : ∀ (ts : List Tr) (i : Nat), plsT (i + 1) ts = (plsT i ts).map shP
  | [], _ => rfl
  | t :: ts, i => by rw [plsT, plsT, List.map_append, plsT_shift ts (i + 1), plT_shift]
theorem ord_cons (t : Tr) (ts : List Tr) (hk : t.kind = 1 ∨ t.kind = 2 ∨ t.kind = 3) : ∃ A B : List Tr, ordL (t :: ts) = A ++ t :: B ∧ ordL ts = A ++ B := by
  obtain ⟨a, -, -, ha⟩ := plT_one hk
  have h0 : plsT 0 (t :: ts) = ⟨t.kind, a, 0⟩ :: (plsT 0 ts).map shP := by rw [plsT, ha, ← plsT_shift]; rfl
  have hp := (ordP_ok (t :: ts)).2
  have hs := (ordP_ok (t :: ts)).1
  rw [h0] at hp
  have hm : (⟨t.kind, a, 0⟩ : Pl) ∈ ordP (t :: ts) := hp.mem_iff.2 List.mem_cons_self
  obtain ⟨A, B, hAB⟩ := List.append_of_mem hm
  rw [hAB] at hp hs
  have hpp : (A ++ B).Perm ((ordP ts).map shP) := ((List.perm_middle.symm.trans hp).cons_inv).trans ((ordP_ok ts).2.symm.map shP)
  have hsub : (A ++ B).Sublist (A ++ (⟨t.kind, a, 0⟩ : Pl) :: B) := List.Sublist.append (List.Sublist.refl A) (List.sublist_cons_self _ B)
  have hsrt : SrtP ((ordP ts).map shP) := by
    unfold SrtP
    rw [List.pairwise_map]
    refine (ordP_ok ts).1.imp fun {x y} h => ?_
    rw [lessP_not] at h ⊢
    simp only [shP]; omega
  have he := srt_unique (hs.sublist hsub) hsrt hpp
  refine ⟨A.map fun p => (t :: ts).getD p.i.toNat default, B.map fun p => (t :: ts).getD p.i.toNat default, ?_, ?_⟩
  · unfold ordL
    rw [hAB, List.map_append, List.map_cons]; rfl
  · rw [← List.map_append, he, List.map_map]
    unfold ordL
    refine List.map_congr_left fun p hp => ?_
    have h4 := (ordP_at hp).2.2.2.1
    simp only [Function.comp, shP]
    rw [show (p.i + 1).toNat = p.i.toNat + 1 by omega, List.getD_cons_succ]
theorem tower_noop {t : Tr} {ts : List Tr} {l : List Ls} (h1 : mayT (t :: ts) l = 0) (hn : NoT l t) : towerT (t :: ts) l = towerT ts l := by
  obtain ⟨hR, hX, -, hls, -, -⟩ := may_ok h1
  have ht := hR t List.mem_cons_self
  obtain ⟨A, B, e1, e2⟩ := ord_cons t ts (right_kind ht)
  have hkk := ordL_kinds (t :: ts)
  have hmm := fun u (hu : u ∈ ordL (t :: ts)) => hR u (ordL_mem hu)
  rw [e1] at hkk hmm
  rw [towerT_eq, towerT_eq, e1, e2]
  exact twrT_noop hX hls ht hn B A 0 (sw0 l) l 1 (sw0_ok l hX) (RdOk.self hX) (fun u hu => hmm u (List.mem_append_left _ hu)) hkk (fun u hu => by have := right_kind (hmm u hu); omega)
def sgP (n : Nat) (p : Pl) : Pl := if p.i = 0 then ⟨p.k, p.a, n⟩ else ⟨p.k, p.a, p.i - 1⟩
theorem ord_turn (t : Tr) (ts : List Tr) (hk : t.kind = 1 ∨ t.kind = 2 ∨ t.kind = 3) (hu : ∀ u, u ∈ ts → u.kind = t.kind → u.att ≠ t.att ∧ t.kind ≠ 1) : ordL (t :: ts) = ordL (ts ++ [t]) := by
  obtain ⟨a, ha1, ha2, ha⟩ := plT_one hk
  have h0 : plsT 0 (t :: ts) = ⟨t.kind, a, 0⟩ :: (plsT 0 ts).map shP := by rw [plsT, ha, ← plsT_shift]; rfl
  have hn : plsT 0 (ts ++ [t]) = plsT 0 ts ++ [⟨t.kind, a, ts.length⟩] := by
    rw [plsT_app, Nat.zero_add]; simp only [plsT, ha, List.append_nil]
  have hshi : ∀ p, p ∈ plsT 0 ts → sgP ts.length (shP p) = p := fun p hp => by
    have := (plsT_at hp).2.2.2.1
    unfold sgP shP
    rw [if_neg (by simp only; omega)]
    obtain ⟨p1, p2, p3⟩ := p
    simp only [Pl.mk.injEq, true_and]; omega
  have hperm : ((ordP (t :: ts)).map (sgP ts.length)).Perm (plsT 0 (ts ++ [t])) := by
    refine ((ordP_ok (t :: ts)).2.map _).trans ?_
    rw [h0, hn, List.map_cons, List.map_map]
    have e : (plsT 0 ts).map (sgP ts.length ∘ shP) = plsT 0 ts := by
      conv => rhs; rw [← List.map_id (plsT 0 ts)]
      exact List.map_congr_left fun p hp => hshi p hp
    rw [e]
    exact (List.perm_append_comm (l₁ := [_]))
  have hcase : ∀ p, p ∈ ordP (t :: ts) → (p = ⟨t.kind, a, 0⟩) ∨ (0 < p.i ∧ ∃ u, u ∈ ts ∧ p.k = u.kind ∧ (u.kind ≠ 1 → p.a = u.att)) := fun p hp => by
    have h2 := (ordP_ok (t :: ts)).2.mem_iff.1 hp
    rw [h0] at h2
    rcases List.mem_cons.1 h2 with h2 | h2
    · exact .inl h2
    · obtain ⟨q, hq, rfl⟩ := List.mem_map.1 h2
      have h3 := plsT_at hq
      have h4 := plT_mem h3.2.2.1
      refine .inr ⟨by simp only [shP]; omega, _, h3.1, h3.2.1, fun h => ?_⟩
      rcases h4.2.2 with h5 | h5
      · exact absurd h5.1 h
      · exact h5.2
  have hsrt : SrtP ((ordP (t :: ts)).map (sgP ts.length)) := by
    unfold SrtP
    rw [List.pairwise_map]
    refine (ordP_ok (t :: ts)).1.imp_of_mem fun {x y} hx hy h => ?_
    rw [lessP_not] at h ⊢
    have tie : ∀ p q : Pl, p = ⟨t.kind, a, 0⟩ → (∃ u, u ∈ ts ∧ q.k = u.kind ∧ (u.kind ≠ 1 → q.a = u.att)) → ¬ (q.k = p.k ∧ q.a = p.a) := by
      rintro p q rfl ⟨u, hu1, hu2, hu3⟩ ⟨e1, e2⟩
      simp only at e1 e2
      have := hu u hu1 (by omega)
      have h5 := hu3 (by omega)
      have h6 := ha2 this.2
      exact this.1 (by omega)
    rcases hcase x hx with rfl | ⟨hx1, hx2⟩ <;> rcases hcase y hy with rfl | ⟨hy1, hy2⟩
    · simp only [sgP, if_true]; omega
    · have := tie _ _ rfl hy2
      simp only [sgP, if_true, if_neg (show ¬ y.i = 0 by omega)] at h this ⊢; omega
    · have := tie _ _ rfl hx2
      simp only [sgP, if_true, if_neg (show ¬ x.i = 0 by omega)] at h this ⊢; omega
    · simp only [sgP, if_neg (show ¬ y.i = 0 by omega), if_neg (show ¬ x.i = 0 by omega)]; omega
  have he := ordP_unique hsrt hperm
  unfold ordL
  rw [← he, List.map_map]
  refine List.map_congr_left fun p hp => ?_
  have h4 := ordP_at hp
  simp only [Function.comp, sgP]
  by_cases e : p.i = 0
  · rw [if_pos e, e]
    simp
  · rw [if_neg e]
    simp only
    obtain ⟨j, hj⟩ : ∃ j : Nat, p.i = (j : Int) + 1 := ⟨(p.i - 1).toNat, by omega⟩
    have h5 := h4.2.2.2.2
    rw [hj, show ((j : Int) + 1).toNat = j + 1 by omega, show ((j : Int) + 1 - 1).toNat = j by omega, List.getD_cons_succ]
    rw [hj, show ((j : Int) + 1).toNat = j + 1 by omega, List.length_cons] at h5
    simp only [List.getD_eq_getElem?_getD]
    rw [List.getElem?_append_left (by omega)]
theorem tower_turn {t : Tr} {ts : List Tr} (l : List Ls) (hk : t.kind = 1 ∨ t.kind = 2 ∨ t.kind = 3) (hu : ∀ u, u ∈ ts → u.kind = t.kind → u.att ≠ t.att ∧ t.kind ≠ 1) : towerT (t :: ts) l = towerT (ts ++ [t]) l := by
  rw [towerT_eq, towerT_eq, ord_turn t ts hk hu]
end Go.Proofs.Ytgpckelpmincmaa
end
section
set_option linter.unusedSimpArgs false
set_option linter.unusedVariables false
namespace Go.Proofs.Ytgpckelpmincmaa
set_option linter.unusedSimpArgs false
set_option linter.unusedVariables false
open Go.Bx
set_option maxRecDepth 10000
def cTD (t : Tr) : List D := [.int .i64 t.id, .int .i64 t.kind, .int .i64 t.sf, .int .i64 t.st, .int .i64 t.bp, .int .i64 t.att, .int .i64 t.wid, .int .i64 t.aga, .int .i64 t.per]
structure OfR (ts : List Tr) (l : List Ls) (G : List (List (Int × Int))) (A : List Int) : Prop where
  ok : mayT ts l = 0 → G = (towerT ts l).2 ∧ A = (towerT ts l).1 ∧ G.length = l.length ∧ A.length = l.length
  no : mayT ts l ≠ 0 → G = [] ∧ A = []
theorem of_r (ts : List Tr) (l : List Ls) : ∃ G A, ofT ts l = (G, A, mayT ts l) ∧ OfR ts l G A := by
  by_cases h : mayT ts l = 0
  · have hsw := (tower_ok h).1.sw
    exact ⟨_, _, by rw [ofT, if_neg (by simp [h]), h], fun _ => ⟨rfl, rfl, hsw.lg, hsw.la⟩, fun h' => absurd h h'⟩
  · exact ⟨_, _, by rw [ofT, if_pos h], fun h' => absurd h' h, fun _ => ⟨rfl, rfl⟩⟩
end Go.Proofs.Ytgpckelpmincmaa
end
section
set_option linter.unusedSimpArgs false
set_option linter.unusedVariables false
namespace Go.Proofs.Ytgpckelpmincmaa
set_option linter.unusedSimpArgs false
set_option linter.unusedVariables false
open Go.Bx
set_option maxRecDepth 10000
theorem likeB_iff {ts : List Tr} {t : Tr} (h : ts.any (fun u => u.kind == t.kind && (u.att == t.att || t.kind == 1)) = false) : ∀ u, u ∈ ts → u.kind = t.kind → u.att ≠ t.att ∧ t.kind ≠ 1 := by
  intro u hu he
  have := List.any_eq_false.1 h u hu
  simp only [he, beq_self_eq_true, Bool.true_and, Bool.or_eq_true, beq_iff_eq, not_or] at this
  exact this
theorem any_snoc {α : Type} {l : List α} {k : Nat} {x : α} (h : l[k]? = some x) (p : α → Bool) : (l.take (k + 1)).any p = ((l.take k).any p || p x) := by
  rw [List.take_add_one, h]; simp
theorem mf1 (t : Tr) (ts : List Tr) : ∀ i, i < 1 → litRow 9 (cTD t) i = cTD ((t :: ts).getD i default) := fun i hi => by
  obtain rfl : i = 0 := by omega
  simp [litRow, cTD]
theorem mf2 (t : Tr) {ts : List Tr} (h : ts = []) : ∀ i, i < 1 → (cTD t |>.drop (i * 9) |>.take 9) = cTD ((ts ++ [t]).getD i default) := fun i hi => by
  obtain rfl : i = 0 := by omega
  simp [h, cTD]
theorem mf3 (t : Tr) (ts : List Tr) : ∀ i, i < 1 + ts.length → (if i < 1 then (cTD t |>.drop (i * 9) |>.take 9) else cTD (ts.getD (i - 1) default)) = cTD ((t :: ts).getD i default) := fun i hi => by
  cases i <;> simp [cTD]
theorem mf4 (t : Tr) (ts : List Tr) : ∀ i, i < ts.length + 1 → (if i < ts.length then cTD (ts.getD i default) else (cTD t |>.drop ((i - ts.length) * 9) |>.take 9)) = cTD ((ts ++ [t]).getD i default) := fun i hi => by
  by_cases hik : i < ts.length
  · simp only [if_pos hik, List.getD_eq_getElem?_getD, List.getElem?_append_left hik]
  · obtain rfl : i = ts.length := by omega
    simp [cTD, List.getD_eq_getElem?_getD]
set_option maxHeartbeats 8000000 in
theorem lMore (ts : List Tr) (l : List Ls) (t : Tr) : Ctr Try.prog 7 [.d (slT ts), .d (slX l), vT t] [] (.d (.bool true)) [] [] := by
  have cf := rFew ts l
  simp only [slT, slX] at cf
  refine ctr_pure Try.func7 ok7 rfl cc7 cr7 Try.ntmps7 (by simp) rfl rfl ?_; intro c hP hfn; simp only [kc7, slT, slX, vT, cT, vcb, ↓evSo_some, ↓reduceIte, reduceCtorEq, seval]
  repeat' first
      | (first
          | refine TR.p hP (by first | exact lAwake | exact cf) (by repeat' first | exact trivial | (intro _; assumption) | apply And.intro) ?_
          | refine TR.gp hP rfl (fun _ => by first | exact lAwake | exact cf) (fun _ => by repeat' first | exact trivial | (intro _; assumption) | apply And.intro) ?_
          | refine TR.pv hP rfl (by first | exact lAwake | exact cf) trivial (by repeat' first | exact trivial | (intro _; assumption) | apply And.intro) ?_
         try simp only [vcb, ↓evSo_some, ↓reduceIte, reduceCtorEq, seval])
      | refine And.intro (fun h => ?_) (fun h => ?_)
      | refine And.intro (by first | omega | (simp only [maxLen, decide_eq_true_eq, decide_eq_false_iff_not] at *; omega)) ?_
      | (refine TR.aslO rfl rfl rfl rfl trivial (Nat.le_of_ble_eq_true rfl) ?_
         try simp only [vcb, ↓evSo_some, ↓reduceIte, reduceCtorEq, seval])
      | refine And.intro trivial ?_
      | refine And.intro rfl ?_
      | fail
  · exact RetK.pure (by simp only [rs7, rsb, vcb, ↓evSo_some, ↓reduceIte, reduceCtorEq, seval]) (by (simp only [rs7, rsb, vcb, ↓evSo_some, ↓reduceIte, reduceCtorEq, seval, enb, vcb, ↓evSo_some, ↓reduceIte, reduceCtorEq, seval]) <;> (first | rfl))
  have hf : ts.length ≤ 19 ∧ l.length ≤ 60 := by
    rw [Bool.or_eq_false_iff] at h
    have h1 := of_decide_eq_false h.2
    have h2 : ts.length ≤ 20 ∧ l.length ≤ 60 := by simpa using h.1
    omega
  clear h cf
  obtain ⟨G1, A1, o1, r1⟩ := of_r ts l
  obtain ⟨G2, A2, o2, r2⟩ := of_r (t :: ts) l
  obtain ⟨G3, A3, o3, r3⟩ := of_r (ts ++ [t]) l
  have hmr : mayT (ts ++ [t]) l = mayT (t :: ts) l := may_perm (List.perm_append_singleton t ts) l
  rw [hmr] at o3
  have k1 := of_ok ts l
  have k2 := of_ok (t :: ts) l
  have k3 := of_ok (ts ++ [t]) l
  rw [o1] at k1
  rw [o2] at k2
  rw [o3] at k3
  have c1 := sTOf ts l (by omega) (by omega)
  have hA : ∀ (b : Bool) (n : Nat) (F : Nat → List D), n = 1 + ts.length → (∀ i, i < n → F i = cTD ((t :: ts).getD i default)) → Ctr Try.prog 11 [.d (.sl b 9 n F), .d (slX l)] [] (.tup [.d (gC G2), .d (slK .i64 A2), .d (.int .i64 (mayT (t :: ts) l))]) [] [] := fun b n F hn hF => by
    have c2 := sTOf (t :: ts) l (by simp; omega) (by omega)
    rw [o2] at c2
    exact c2.arg ⟨VLe.sl (by simp; omega) (fun _ => rfl) (fun h => by cases h) hF, VLe.refl _, trivial⟩
  have hB : ∀ (b : Bool) (n : Nat) (F : Nat → List D), n = ts.length + 1 → (∀ i, i < n → F i = cTD ((ts ++ [t]).getD i default)) → Ctr Try.prog 11 [.d (.sl b 9 n F), .d (slX l)] [] (.tup [.d (gC G3), .d (slK .i64 A3), .d (.int .i64 (mayT (t :: ts) l))]) [] [] := fun b n F hn hF => by
    have c3 := sTOf (ts ++ [t]) l (by simp; omega) (by omega)
    rw [o3] at c3
    exact c3.arg ⟨VLe.sl (by simp; omega) (fun _ => rfl) (fun h => by cases h) hF, VLe.refl _, trivial⟩
  rw [o1] at c1
  simp only [slT, slX, slK] at c1
  simp only [slX, slK, gC] at hA hB
  have hbytes : (1 + ts.length) * 72 ≤ 140737488355328 := by omega
  have hmx : 1 + ts.length ≤ maxLen := by simp only [maxLen]; omega
  have hbytes2 : (ts.length + 1) * 72 ≤ 140737488355328 := by omega
  have hmx2 : ts.length + 1 ≤ maxLen := by simp only [maxLen]; omega
  repeat' first
      | (first
          | refine TR.p hP (by first | exact c1) (by repeat' first | exact trivial | (intro _; assumption) | apply And.intro) ?_
          | refine TR.gp hP rfl (fun _ => by first | exact c1) (fun _ => by repeat' first | exact trivial | (intro _; assumption) | apply And.intro) ?_
          | refine TR.pv hP rfl (by first | exact c1) trivial (by repeat' first | exact trivial | (intro _; assumption) | apply And.intro) ?_
         try simp only [vcb, ↓evSo_some, ↓reduceIte, reduceCtorEq, seval])
      | refine And.intro (fun h => ?_) (fun h => ?_)
      | refine And.intro (by first | omega | (simp only [maxLen, decide_eq_true_eq, decide_eq_false_iff_not] at *; omega)) ?_
      | (refine TR.aslO rfl rfl rfl rfl trivial (Nat.le_of_ble_eq_true rfl) ?_
         try simp only [vcb, ↓evSo_some, ↓reduceIte, reduceCtorEq, seval])
      | refine And.intro trivial ?_
      | refine And.intro rfl ?_
      | fail
  have hv : (mayT (t :: ts) l == 0 || ((G2.length : Int) == 0)) = true := by
    by_cases hm : mayT (t :: ts) l = 0
    · simp [hm]
    · simp [(r2.no hm).1]
  by_cases hz : ts.length = 0
  case' pos =>
    have hts : ts = [] := List.eq_nil_of_length_eq_zero hz
    simp only [hz, ↓reduceIte, vcb, ↓evSo_some, ↓reduceIte, reduceCtorEq, seval]
    repeat' first
        | (first
            | refine TR.p hP (by first | exact c1) (by repeat' first | exact trivial | (intro _; assumption) | apply And.intro) ?_
            | refine TR.gp hP rfl (fun _ => by first | exact c1) (fun _ => by repeat' first | exact trivial | (intro _; assumption) | apply And.intro) ?_
            | refine TR.pv hP rfl (by first | exact c1) trivial (by repeat' first | exact trivial | (intro _; assumption) | apply And.intro) ?_
           try simp only [hz, ↓reduceIte, vcb, ↓evSo_some, ↓reduceIte, reduceCtorEq, seval])
        | refine And.intro (fun h => ?_) (fun h => ?_)
        | refine And.intro (by first | omega | (simp only [maxLen, decide_eq_true_eq, decide_eq_false_iff_not] at *; omega)) ?_
        | (refine TR.aslO rfl rfl rfl rfl trivial (Nat.le_of_ble_eq_true rfl) ?_
           try simp only [hz, ↓reduceIte, vcb, ↓evSo_some, ↓reduceIte, reduceCtorEq, seval])
        | refine And.intro trivial ?_
        | refine And.intro rfl ?_
        | fail
    refine TR.wk _ (Wk.pub 52 rfl) ?_
    simp only [vcb, ↓evSo_some, ↓reduceIte, reduceCtorEq, seval]
    refine TR.p hP (hA _ _ _ (by omega) (mf1 t ts)) (by repeat' first | exact trivial | (intro _; assumption) | apply And.intro) ?_
    simp only [vcb, ↓evSo_some, ↓reduceIte, reduceCtorEq, seval]
    repeat' first
        | (first
            | refine TR.p hP (by first | exact hB _ _ _ (by omega) (mf2 t hts)) (by repeat' first | exact trivial | (intro _; assumption) | apply And.intro) ?_
            | refine TR.gp hP rfl (fun _ => by first | exact hB _ _ _ (by omega) (mf2 t hts)) (fun _ => by repeat' first | exact trivial | (intro _; assumption) | apply And.intro) ?_
            | refine TR.pv hP rfl (by first | exact hB _ _ _ (by omega) (mf2 t hts)) trivial (by repeat' first | exact trivial | (intro _; assumption) | apply And.intro) ?_
           try simp only [vcb, ↓evSo_some, ↓reduceIte, reduceCtorEq, seval])
        | refine And.intro (fun h => ?_) (fun h => ?_)
        | refine And.intro (by first | omega | (simp only [maxLen, decide_eq_true_eq, decide_eq_false_iff_not] at *; omega)) ?_
        | (refine TR.aslO rfl rfl rfl rfl trivial (Nat.le_of_ble_eq_true rfl) ?_
           try simp only [vcb, ↓evSo_some, ↓reduceIte, reduceCtorEq, seval])
        | refine And.intro trivial ?_
        | refine And.intro rfl ?_
        | fail
  case' neg =>
    simp only [if_neg hz, vcb, ↓evSo_some, ↓reduceIte, reduceCtorEq, seval]
    repeat' first
        | (first
            | refine TR.p hP (by first | exact c1) (by repeat' first | exact trivial | (intro _; assumption) | apply And.intro) ?_
            | refine TR.gp hP rfl (fun _ => by first | exact c1) (fun _ => by repeat' first | exact trivial | (intro _; assumption) | apply And.intro) ?_
            | refine TR.pv hP rfl (by first | exact c1) trivial (by repeat' first | exact trivial | (intro _; assumption) | apply And.intro) ?_
           try simp only [if_neg hz, vcb, ↓evSo_some, ↓reduceIte, reduceCtorEq, seval])
        | refine And.intro (fun h => ?_) (fun h => ?_)
        | refine And.intro (by first | omega | (simp only [maxLen, decide_eq_true_eq, decide_eq_false_iff_not] at *; omega)) ?_
        | (refine TR.aslO rfl rfl rfl rfl trivial (Nat.le_of_ble_eq_true rfl) ?_
           try simp only [if_neg hz, vcb, ↓evSo_some, ↓reduceIte, reduceCtorEq, seval])
        | refine And.intro trivial ?_
        | refine And.intro rfl ?_
        | fail
    refine TR.wk _ (Wk.pub 52 rfl) ?_
    simp only [vcb, ↓evSo_some, ↓reduceIte, reduceCtorEq, seval]
    refine TR.wk _ (Wk.pub 46 rfl) ?_
    simp only [vcb, ↓evSo_some, ↓reduceIte, reduceCtorEq, seval]
    repeat' first
        | (first
            | refine TR.p hP (by first | exact hA _ _ _ (by omega) (mf3 t ts) | exact hB _ _ _ (by omega) (mf4 t ts)) (by repeat' first | exact trivial | (intro _; assumption) | apply And.intro) ?_
            | refine TR.gp hP rfl (fun _ => by first | exact hA _ _ _ (by omega) (mf3 t ts) | exact hB _ _ _ (by omega) (mf4 t ts)) (fun _ => by repeat' first | exact trivial | (intro _; assumption) | apply And.intro) ?_
            | refine TR.pv hP rfl (by first | exact hA _ _ _ (by omega) (mf3 t ts) | exact hB _ _ _ (by omega) (mf4 t ts)) trivial (by repeat' first | exact trivial | (intro _; assumption) | apply And.intro) ?_
           try simp only [vcb, ↓evSo_some, ↓reduceIte, reduceCtorEq, seval])
        | refine And.intro (fun h => ?_) (fun h => ?_)
        | refine And.intro (by first | omega | (simp only [maxLen, decide_eq_true_eq, decide_eq_false_iff_not] at *; omega)) ?_
        | (refine TR.aslO rfl rfl rfl rfl trivial (Nat.le_of_ble_eq_true rfl) ?_
           try simp only [vcb, ↓evSo_some, ↓reduceIte, reduceCtorEq, seval])
        | refine And.intro trivial ?_
        | refine And.intro rfl ?_
        | fail
  case' pos.refine_1 => exact RetK.pure (by simp only [rs7, rsb, vcb, ↓evSo_some, ↓reduceIte, reduceCtorEq, seval]) (by (simp only [rs7, rsb, vcb, ↓evSo_some, ↓reduceIte, reduceCtorEq, seval, enb, vcb, ↓evSo_some, ↓reduceIte, reduceCtorEq, seval]) <;> (first | exact hv))
  case' neg.refine_1 => exact RetK.pure (by simp only [rs7, rsb, vcb, ↓evSo_some, ↓reduceIte, reduceCtorEq, seval]) (by (simp only [rs7, rsb, vcb, ↓evSo_some, ↓reduceIte, reduceCtorEq, seval, enb, vcb, ↓evSo_some, ↓reduceIte, reduceCtorEq, seval]) <;> (first | exact hv))
  all_goals
    clear hA hB c1
    have he : mayT ts l = 0 ∧ mayT (t :: ts) l = 0 := by simp at h; omega
    obtain ⟨he, hf2⟩ := he
    clear h
    refine vcC.loop (X := Nat) (fun i => ⟨[(0, .d (slT ts)), (1, .d (slX l)), (5, .own 5 0), (7, .d (.bool true)), (9, .d (gC G1)), (10, .d (slK .i64 A1)), (14, .d (gC G2)), (15, .d (slK .i64 A2)), (17, .d (gC G3)), (18, .d (slK .i64 A3)), (20, .d (.bool ((l.take i).any (takesT t)))), (21, .d (.bool false)), (22, .d (.int .i64 i))], [(5, .fix (cT t))], [5]⟩)
      (fun i => i ≤ l.length) (fun i => l.length - i) 0 (Nat.zero_le _) (Wk.of _ hfn rfl (by (simp only [slT, slX, slK, gC, List.take_zero, List.any_nil, enb, vcb, ↓evSo_some, ↓reduceIte, reduceCtorEq, seval]) <;> exact VLe.sl hz.symm (fun _ => rfl) id (fun _ _ => rfl)) (by simp only [cT, enb, vcb, ↓evSo_some, ↓reduceIte, reduceCtorEq, seval])) ?_
    rintro i hi
    simp only [slX, cT, vcb, ↓evSo_some, ↓reduceIte, reduceCtorEq, seval]
    refine ⟨fun h => ?_, fun h => ?_⟩
    · have hlt : i < l.length := by have := of_decide_eq_true h; omega
      have ewi : IntKind.i64.wrap ((i : Int) + 1) = ((i + 1 : Nat) : Int) := wS (by omega)
      have hs := any_snoc (List.getElem?_eq_getElem hlt) (takesT t)
      have hgd : l.getD i default = l[i] := by rw [List.getD_eq_getElem?_getD, List.getElem?_eq_getElem hlt]; rfl
      have ct := s23 t l[i]
      simp only [vT, vX, cT, cX'] at ct
      simp only [hgd, Int.toNat_natCast, cT, vcb, ↓evSo_some, ↓reduceIte, reduceCtorEq, seval]
      clear h
      repeat' first
          | (first
              | refine TR.p hP (by first | exact ct) (by repeat' first | exact trivial | (intro _; assumption) | apply And.intro) ?_
              | refine TR.gp hP rfl (fun _ => by first | exact ct) (fun _ => by repeat' first | exact trivial | (intro _; assumption) | apply And.intro) ?_
              | refine TR.pv hP rfl (by first | exact ct) trivial (by repeat' first | exact trivial | (intro _; assumption) | apply And.intro) ?_
             try simp only [hgd, Int.toNat_natCast, cT, vcb, ↓evSo_some, ↓reduceIte, reduceCtorEq, seval])
          | refine And.intro (fun h => ?_) (fun h => ?_)
          | refine And.intro (by first | omega | (simp only [maxLen, decide_eq_true_eq, decide_eq_false_iff_not] at *; omega)) ?_
          | (refine TR.aslO rfl rfl rfl rfl trivial (Nat.le_of_ble_eq_true rfl) ?_
             try simp only [hgd, Int.toNat_natCast, cT, vcb, ↓evSo_some, ↓reduceIte, reduceCtorEq, seval])
          | refine And.intro trivial ?_
          | refine And.intro rfl ?_
          | fail
      exact lopK.on (i + 1) hlt (by omega) (Wk.of _ hfn rfl (by simp only [slT, slX, slK, gC, hs, ewi, enb, vcb, ↓evSo_some, ↓reduceIte, reduceCtorEq, seval]) (by simp only [cT, enb, vcb, ↓evSo_some, ↓reduceIte, reduceCtorEq, seval]))
    have hil : i = l.length := by have := of_decide_eq_false h; omega
    subst hil
    clear h hi
    simp only [List.take_length]
    refine vcC.loop (X := Nat) (fun j => ⟨[(0, .d (slT ts)), (5, .own 5 0), (7, .d (.bool true)), (9, .d (gC G1)), (10, .d (slK .i64 A1)), (14, .d (gC G2)), (15, .d (slK .i64 A2)), (17, .d (gC G3)), (18, .d (slK .i64 A3)), (20, .d (.bool (l.any (takesT t)))), (21, .d (.bool ((ts.take j).any fun u => u.kind == t.kind && (u.att == t.att || t.kind == 1)))), (23, .d (.int .i64 j))], [(5, .fix (cT t))], [5]⟩)
      (fun j => j ≤ ts.length) (fun j => ts.length - j) 0 (Nat.zero_le _) (Wk.of _ hfn rfl (by simp only [slT, slX, slK, gC, List.take_zero, List.any_nil, enb, vcb, ↓evSo_some, ↓reduceIte, reduceCtorEq, seval]) (by simp only [cT, enb, vcb, ↓evSo_some, ↓reduceIte, reduceCtorEq, seval])) ?_
    rintro j hj
    simp only [slT, cT, vcb, ↓evSo_some, ↓reduceIte, reduceCtorEq, seval]
    refine ⟨fun h => ?_, fun h => ?_⟩
    · have hlt : j < ts.length := by have := of_decide_eq_true h; omega
      have ewi : IntKind.i64.wrap ((j : Int) + 1) = ((j + 1 : Nat) : Int) := wS (by omega)
      have hs := any_snoc (List.getElem?_eq_getElem hlt) (fun u => u.kind == t.kind && (u.att == t.att || t.kind == 1))
      have hgd : ts.getD j default = ts[j] := by rw [List.getD_eq_getElem?_getD, List.getElem?_eq_getElem hlt]; rfl
      simp only [hgd, Int.toNat_natCast, vcb, ↓evSo_some, ↓reduceIte, reduceCtorEq, seval]
      clear h
      repeat' first
          | refine And.intro (fun h => ?_) (fun h => ?_)
          | refine And.intro (by first | omega | (simp only [maxLen, decide_eq_true_eq, decide_eq_false_iff_not] at *; omega)) ?_
          | (refine TR.aslO rfl rfl rfl rfl trivial (Nat.le_of_ble_eq_true rfl) ?_
             try simp only [hgd, Int.toNat_natCast, vcb, ↓evSo_some, ↓reduceIte, reduceCtorEq, seval])
          | refine And.intro trivial ?_
          | refine And.intro rfl ?_
          | fail
      exact lopK.on (j + 1) hlt (by omega) (Wk.of _ hfn rfl (by simp only [slT, slK, gC, hs, ewi, enb, vcb, ↓evSo_some, ↓reduceIte, reduceCtorEq, seval]) (by simp only [cT, enb, vcb, ↓evSo_some, ↓reduceIte, reduceCtorEq, seval]))
    have hjl : j = ts.length := by have := of_decide_eq_false h; omega
    subst hjl
    clear h hj
    obtain ⟨a1, a2, a3, a4⟩ := r1.ok he
    obtain ⟨b1, b2, b3, b4⟩ := r2.ok hf2
    obtain ⟨d1, d2, d3, d4⟩ := r3.ok (hmr.trans hf2)
    have hN : l.any (takesT t) = false → G1 = G2 ∧ A1 = A2 := fun h => by
      have hn : NoT l t := fun j hj => by
        have := List.any_eq_false.1 h l[j] (List.getElem_mem hj)
        rw [List.getD_eq_getElem?_getD, List.getElem?_eq_getElem hj]
        simpa using this
      have e := tower_noop hf2 hn
      rw [a1, a2, b1, b2, e]; exact ⟨rfl, rfl⟩
    have hS : (ts.any fun u => u.kind == t.kind && (u.att == t.att || t.kind == 1)) = false → G2 = G3 ∧ A2 = A3 := fun h => by
      have e := tower_turn l (right_kind ((may_ok hf2).1 t List.mem_cons_self)) (likeB_iff h)
      rw [b1, b2, d1, d2, e]; exact ⟨rfl, rfl⟩
    have cc1 := rSameC G1 G2 (by omega) (fun g hg => by have := k1.gl g hg; omega) (by omega) (fun g hg => by have := k2.gl g hg; simp at this; omega)
    have cc2 := rSameC G2 G3 (by omega) (fun g hg => by have := k2.gl g hg; simp at this; omega) (by omega) (fun g hg => by have := k3.gl g hg; simp at this; omega)
    have ca1 := s17 A1 A2 (by omega)
    have ca2 := s17 A2 A3 (by omega)
    simp only [slK] at ca1 ca2
    clear a1 a2 b1 b2 d1 d2 r1 r2 r3 o1 o2 o3 k1 k2 k3
    simp only [List.take_length]
    repeat' first
        | (first
            | refine TR.p hP (by first | exact cc1 | exact ca1 | exact cc2 | exact ca2) (by repeat' first | exact trivial | (intro _; assumption) | apply And.intro) ?_
            | refine TR.gp hP rfl (fun _ => by first | exact cc1 | exact ca1 | exact cc2 | exact ca2) (fun _ => by repeat' first | exact trivial | (intro _; assumption) | apply And.intro) ?_
            | refine TR.pv hP rfl (by first | exact cc1 | exact ca1 | exact cc2 | exact ca2) trivial (by repeat' first | exact trivial | (intro _; assumption) | apply And.intro) ?_
           try simp only [vcb, ↓evSo_some, ↓reduceIte, reduceCtorEq, seval])
        | refine And.intro (fun h => ?_) (fun h => ?_)
        | refine And.intro (by first | omega | (simp only [maxLen, decide_eq_true_eq, decide_eq_false_iff_not] at *; omega)) ?_
        | (refine TR.aslO rfl rfl rfl rfl trivial (Nat.le_of_ble_eq_true rfl) ?_
           try simp only [vcb, ↓evSo_some, ↓reduceIte, reduceCtorEq, seval])
        | refine And.intro trivial ?_
        | refine And.intro rfl ?_
        | fail
    · exfalso
      cases htk : l.any (takesT t) with
      | true => simp [htk] at h
      | false =>
        obtain ⟨x1, x2⟩ := hN htk
        simp [htk, x1, x2] at h
    have hend : ((ts.any fun u => u.kind == t.kind && (u.att == t.att || t.kind == 1)) || decide (G2 = G3) && decide (A2 = A3)) = true := by
      cases hsm : (ts.any fun u => u.kind == t.kind && (u.att == t.att || t.kind == 1)) with
      | true => rfl
      | false =>
        obtain ⟨x1, x2⟩ := hS hsm
        simp [x1, x2]
    exact RetK.pure (by simp only [rs7, rsb, vcb, ↓evSo_some, ↓reduceIte, reduceCtorEq, seval]) (by (simp only [rs7, rsb, vcb, ↓evSo_some, ↓reduceIte, reduceCtorEq, seval, enb, vcb, ↓evSo_some, ↓reduceIte, reduceCtorEq, seval]) <;> (first | exact hend))
end Go.Proofs.Ytgpckelpmincmaa
end
section
set_option linter.unusedSimpArgs false
set_option linter.unusedVariables false
namespace Go.Proofs.Ytgpckelpmincmaa
set_option linter.unusedSimpArgs false
set_option linter.unusedVariables false
open Go.ChangeShapes Go.WideShapes Go.ChangeAt Go.RowKit Go.Bx
set_option maxRecDepth 100000
theorem towerMore_lifted (os : Os) (started : os.Started) (H : Type) (enc : TypeId × Value → H) :
    ReturnsInHanded {} Try.checked os 7 .any (Rows.towerMoreSpec.pre6 enc Try.prog Try.f7 Rows.towerMoreRow.domain false) (Rows.towerMoreSpec.post enc Try.prog Try.f7 false true false false) := by
  refine returnsInHanded_of_change (C := Try.checked) Try.own started (by kernel_rfl) Try.func7
    (ChangeSpec.witness6 (enc := enc) (C := Try.checked) false ⟨#[], #[.slice none 0 0, .slice none 0 0, .agg #[.int .i64 0, .int .i64 0, .int .i64 0, .int .i64 0, .int .i64 0, .int .i64 0, .int .i64 0, .int .i64 0, .int .i64 0]], []⟩ 8 (by kernel_rfl) (by kernel_rfl) (by kernel_rfl) (by kernel_rfl)) ?_
  intro W base args ds gs before hval hW _ _
  refine law_calls (tb := 4) Try.laidOut (by kernel_rfl) (by kernel_rfl) Try.underlying4 rfl ?_ ?_ W base args ds gs before hval hW
  · intro ds hd
    match ds, hd with
    | [_, _, _], _ => rfl
  · intro W base args ds p hval hA
    rw [show Try.f7.params.toList = [22, 23, 43] by kernel_rfl] at hA
    obtain ⟨v0, v1, v2, d0, d1, d2, p0, p1, p2, rfl, rfl, _, h0, h1, h2⟩ := trodAll_three hA
    obtain ⟨ts, tsk, r0⟩ := treaties_reads.cell (by kernel_rfl) (hval 0 22 v0 rfl rfl) h0
    obtain ⟨l, lk, r1⟩ := losses_reads.cell (by kernel_rfl) (hval 1 23 v1 rfl rfl) h1
    obtain ⟨t, tk, r2⟩ := treaty_reads.agg (by kernel_rfl) (hval 2 43 v2 rfl rfl) h2
    exact ⟨[.d (slT ts), .d (slX l), vT t], rfl, rel3 r0 r1 r2, lMore ts l t⟩
theorem towerMore_holds : Rows.TowerMoreSaid :=
  OpenClaim.holds_of_wide 7 Try.f7 rfl rfl rfl rfl rfl rfl rfl ⟨rfl, rfl, rfl, rfl, rfl⟩ rfl rfl rfl rfl rfl (by kernel_rfl) Try.func7 (by kernel_rfl)
    (of_decide_eq_true (by kernel_rfl)) (by unfold Func.isWrapper; first | (rw [if_pos (by decide +kernel)]; kernel_rfl) | (rw [if_neg (by decide +kernel)]; exact ⟨rfl, rfl⟩))
    (fun os started H enc _ => towerMore_lifted os started H enc)
end Go.Proofs.Ytgpckelpmincmaa
end
