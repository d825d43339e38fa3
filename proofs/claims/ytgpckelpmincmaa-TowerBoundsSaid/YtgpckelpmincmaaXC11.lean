import Derived.Test.YtgpckelpmincmaaXC10
section
set_option linter.unusedSimpArgs false
set_option linter.unusedVariables false
namespace Go.Proofs.Ytgpckelpmincmaa
set_option linter.unusedSimpArgs false
set_option linter.unusedVariables false
open Go.Bx
set_option maxRecDepth 10000
theorem VLe.slD {full full' : Bool} {sz n : Nat} {f f' : Nat → List D} (hb : full' = true → full = true) (hf : ∀ i, i < n → (f i).length = (f' i).length ∧ ∀ (j : Nat) (x y : D), (f i)[j]? = some x → (f' i)[j]? = some y → VLe (.d x) (.d y)) : VLe (.d (.sl full sz n f)) (.d (.sl full' sz n f')) := by
  intro β E w v hv
  cases hv with
  | d _ _ hv =>
    refine .d _ _ ?_
    generalize hN : n = m at hv ⊢
    cases hv with
    | nil _ _ _ _ => exact .nil _ _ _ _
    | sl _ _ _ _ b off c g hc hfu hl hcell hrel =>
      subst hN
      refine .sl _ _ _ _ b off c g hc (fun h => hfu (hb h)) (fun i hi => by rw [← (hf i hi).1]; exact hl i hi) hcell (fun i j hi hj y hy => ?_)
      have hlt : j < (f i).length := by rw [hl i hi]; exact hj
      have h1 := hrel i j hi hj _ (List.getElem?_eq_getElem hlt)
      have h2 := (hf i hi).2 j _ y (List.getElem?_eq_getElem hlt) hy
      exact rel_d (h2 β E w _ (.d _ _ h1))
def exT : List Tr := [⟨2, 2, 1, 100, 0, 100, 50, 0, 1⟩, ⟨1, 1, 1, 100, 5000, 0, 0, 0, 1⟩]
def exL : List Ls := [⟨1, 0, 5, 0, 260⟩]
theorem ex_of : ofT exT exL = ([[(1, 130), (2, 30)]], [100], 0) := by
  have h1 : mayT exT exL = 0 := by decide +kernel
  have h2 : refT exT exL = ([100], [[(1, 130), (2, 30)]]) := by decide +kernel
  rw [ofT, if_neg (by rw [h1]; simp), tower_ref, h2]
theorem ex_order : orderT exT = [1, 0] := by rw [order_eq]; decide +kernel
theorem ex_sums : sumsT exT [[(1, 130), (2, 30)]] = [30, 130] := by decide +kernel
def eT : V := .d (.sl true 9 2 (litRow 9 [.int .i64 2, .int .i64 2, .int .i64 1, .int .i64 100, .int .i64 0, .int .i64 100, .int .i64 50, .int .i64 0, .int .i64 1, .int .i64 1, .int .i64 1, .int .i64 1, .int .i64 100, .int .i64 5000, .int .i64 0, .int .i64 0, .int .i64 0, .int .i64 1]))
def eL : V := .d (.sl true 5 1 (litRow 5 [.int .i64 1, .int .i64 0, .int .i64 5, .int .i64 0, .int .i64 260]))
def eC : V := .d (.sl true 1 1 (litRow 1 [.sl true 2 2 (litRow 2 [.int .i64 1, .int .i64 130, .int .i64 2, .int .i64 30])]))
def eI1 : V := .d (.sl true 1 1 (litRow 1 [.int .i64 100]))
def eI2 : V := .d (.sl true 1 2 (litRow 1 [.int .i64 1, .int .i64 0]))
def eI3 : V := .d (.sl true 1 2 (litRow 1 [.int .i64 30, .int .i64 130]))
theorem vle_exT : VLe eT (.d (slT exT)) :=
  VLe.sl rfl (fun _ => rfl) (fun h => by cases h) fun i hi => by
    have : i = 0 ∨ i = 1 := by omega
    rcases this with rfl | rfl <;> rfl
theorem vle_exL : VLe eL (.d (slX exL)) :=
  VLe.sl rfl (fun _ => rfl) (fun h => by cases h) fun i hi => by
    have : i = 0 := by omega
    subst this; rfl
theorem vle_exC : VLe eC (.d (gC [[(1, 130), (2, 30)]])) := by
  refine VLe.slD (fun h => by cases h) fun i hi => ?_
  have : i = 0 := by omega
  subst this
  refine ⟨rfl, fun j x y hx hy => ?_⟩
  have hj : j = 0 := by
    have := (List.getElem?_eq_some_iff.1 hy).1
    simp [nestD] at this; exact this
  subst hj
  simp [litRow] at hx
  simp [nestD] at hy
  subst hx; subst hy
  exact VLe.sl rfl (fun _ => rfl) (fun h => by cases h) fun i hi => by
    have : i = 0 ∨ i = 1 := by omega
    rcases this with rfl | rfl <;> rfl
set_option maxHeartbeats 2000000 in
theorem lAwake : Ctr Try.prog 9 [] [] (.d (.bool true)) [] [] := by
  have c1 := sTOf exT exL (by decide) (by decide)
  rw [ex_of] at c1
  have c1 := c1.arg (args := [eT, eL]) ⟨vle_exT, vle_exL, trivial⟩
  have c2 := sOrder exT (by decide)
  rw [ex_order] at c2
  have c2 := c2.arg (args := [eT]) ⟨vle_exT, trivial⟩
  have c3 := sSums exT [[(1, 130), (2, 30)]] (by decide) (by decide) (by decide)
  rw [ex_sums] at c3
  have c3 := c3.arg (args := [eT, .d (gC [[(1, 130), (2, 30)]])]) ⟨vle_exT, VLe.refl _, trivial⟩
  have c4 := (rSameC [[(1, 130), (2, 30)]] [[(1, 130), (2, 30)]] (by decide) (by decide) (by decide) (by decide)).arg (args := [.d (gC [[(1, 130), (2, 30)]]), eC]) ⟨VLe.refl _, vle_exC, trivial⟩
  have c5 := (s17 [100] [100] (by decide)).arg (args := [.d (slK .i64 [100]), eI1]) ⟨VLe.refl _, LitI.vle (by repeat constructor) (by rfl), trivial⟩
  have c6 := (s17 [1, 0] [1, 0] (by decide)).arg (args := [.d (slK .i64 [1, 0]), eI2]) ⟨VLe.refl _, LitI.vle (by repeat constructor) (by rfl), trivial⟩
  have c7 := (s17 [30, 130] [30, 130] (by decide)).arg (args := [.d (slK .i64 [30, 130]), eI3]) ⟨VLe.refl _, LitI.vle (by repeat constructor) (by rfl), trivial⟩
  simp only [gC, slK, eT, eL, eC, eI1, eI2, eI3, List.length_cons, List.length_nil, Nat.zero_add, Nat.reduceAdd, decide_true] at c1 c2 c3 c4 c5 c6 c7
  refine ctr_pure Try.func9 ok9 rfl cc9 cr9 Try.ntmps9 (by simp) rfl rfl ?_; intro c hP hfn; simp only [kc9, vcb, ↓evSo_some, ↓reduceIte, reduceCtorEq, seval]
  repeat' first
      | (first
          | refine TR.p hP (by first | exact c1 | exact c2 | exact c3 | exact c4 | exact c5 | exact c6 | exact c7) (by repeat' first | exact trivial | (intro _; assumption) | apply And.intro) ?_
          | refine TR.gp hP rfl (fun _ => by first | exact c1 | exact c2 | exact c3 | exact c4 | exact c5 | exact c6 | exact c7) (fun _ => by repeat' first | exact trivial | (intro _; assumption) | apply And.intro) ?_
          | refine TR.pv hP rfl (by first | exact c1 | exact c2 | exact c3 | exact c4 | exact c5 | exact c6 | exact c7) trivial (by repeat' first | exact trivial | (intro _; assumption) | apply And.intro) ?_
         try simp only [vcb, ↓evSo_some, ↓reduceIte, reduceCtorEq, seval])
      | refine And.intro (fun h => ?_) (fun h => ?_)
      | refine And.intro (by first | omega | (simp only [maxLen, decide_eq_true_eq, decide_eq_false_iff_not] at *; omega)) ?_
      | (refine TR.aslO rfl rfl rfl rfl trivial (Nat.le_of_ble_eq_true rfl) ?_
         try simp only [vcb, ↓evSo_some, ↓reduceIte, reduceCtorEq, seval])
      | refine And.intro trivial ?_
      | refine And.intro rfl ?_
      | fail
  exact RetK.pure (by simp only [rs9, rsb, vcb, ↓evSo_some, ↓reduceIte, reduceCtorEq, seval]) (by (simp only [rs9, rsb, vcb, ↓evSo_some, ↓reduceIte, reduceCtorEq, seval, enb, vcb, ↓evSo_some, ↓reduceIte, reduceCtorEq, seval]) <;> (first | simp))
end Go.Proofs.Ytgpckelpmincmaa
end
section
set_option linter.unusedSimpArgs false
set_option linter.unusedVariables false
namespace Go.Proofs.Ytgpckelpmincmaa
set_option linter.unusedSimpArgs false
set_option linter.unusedVariables false
open Go.Bx
set_option maxRecDepth 10000
def amtI (id : Int) (g : List (Int × Int)) : Int := ((g.filter (fun p => p.1 == id)).map (·.2)).sum
def tot (id : Int) (G : List (List (Int × Int))) : Int := (G.map (amtI id)).sum
theorem amtI_snoc (id : Int) (g : List (Int × Int)) (p : Int × Int) : amtI id (g ++ [p]) = amtI id g + (if p.1 = id then p.2 else 0) := by
  unfold amtI
  rw [List.filter_append, List.map_append, List.sum_append]
  congr 1
  by_cases h : p.1 = id
  · rw [if_pos h]; simp [h]
  · rw [if_neg h]; simp [h]
theorem amtI_none {id : Int} {g : List (Int × Int)} (h : ∀ p, p ∈ g → p.1 ≠ id) : amtI id g = 0 := by
  unfold amtI
  rw [List.filter_eq_nil_iff.2 (fun p hp => by simpa using h p hp)]; rfl
theorem sum_le_of : ∀ {a b : List Int}, a.length = b.length → (∀ j, j < a.length → a.getD j 0 ≤ b.getD j 0) → a.sum ≤ b.sum
  | [], [], _, _ => Int.le_refl _
  | [], _ :: _, h, _ => by simp at h
  | _ :: _, [], h, _ => by simp at h
  | x :: a, y :: b, h, hj => by
    have h0 := hj 0 (by simp)
    have h1 := sum_le_of (a := a) (b := b) (by simpa using h) (fun j hjl => by simpa using hj (j + 1) (by simpa using hjl))
    simp only [List.getD_cons_zero] at h0
    simp only [List.sum_cons]; omega
theorem map_getD {α : Type} {f : List α → Int} (h0 : f [] = 0) (G : List (List α)) (j : Nat) : (G.map f).getD j 0 = f (G.getD j []) := by
  simp only [List.getD_eq_getElem?_getD, List.getElem?_map]
  cases h : G[j]? with
  | none => simp [h0]
  | some g => rfl
theorem amtI_nil (id : Int) : amtI id [] = 0 := rfl
structure TwI (l : List Ls) (done : List Tr) (s : Sw) : Prop where
  sw : SwI l done.length 0 s
  W : ∀ j, j < l.length → ((s.2.getD j []).map (·.2)).sum + s.1.getD j 0 = (l.getD j default).amt
  P : ∀ j, j < l.length → ∀ p, p ∈ s.2.getD j [] → 0 < p.2 ∧ ∃ t, t ∈ done ∧ t.id = p.1 ∧ takesT t (l.getD j default) = true ∧ (t.kind = 1 → p.2 ≤ (bearsQ t (l.getD j default)).1)
  N : ∀ j, j < l.length → ((s.2.getD j []).map (·.1)).Nodup
  S : ∀ t, t ∈ done → t.kind ≠ 1 → tot t.id s.2 ≤ roomT t
theorem bearsA_q {t : Tr} (h : t.kind = 1) (l : List Ls) {j : Nat} (hj : j < l.length) : (bearsA t l).getD j 0 = (bearsQ t (l.getD j default)).1 := by
  unfold bearsA
  rw [if_neg (by omega), if_neg (by omega)]
  simp only [List.getD_eq_getElem?_getD, List.getElem?_map, List.getElem?_eq_getElem hj, Option.map_some, Option.getD_some]
theorem TwI.step {l rd : List Ls} {done : List Tr} {s : Sw} (h : TwI l done s) (hX : ∀ x, x ∈ l → lossX x = true) (hl : l.length ≤ 2000) {t : Tr} (ht : rightT t = true) (hid : t.id ∉ done.map (·.id)) (hr : RdOk l rd) (h1 : t.kind = 1 → rd = l) :
    TwI l (done ++ [t]) (swe t.id (bearsA t rd) s) := by
  obtain ⟨b1, b2, b3, b4⟩ := rd_bears hX hl hr ht
  have hget := swe_get t.id b1 h.sw.la h.sw.lg
  have hsw := swp_ok t.id b2 b1 h.sw
  have hq : t.kind = 1 → ∀ j, j < l.length → (bearsA t rd).getD j 0 = (bearsQ t (l.getD j default)).1 := fun hk j hj => by rw [h1 hk]; exact bearsA_q hk l hj
  generalize bearsA t rd = b at *
  have hne : ∀ j, j < l.length → ∀ p, p ∈ s.2.getD j [] → p.1 ≠ t.id := fun j hj p hp e => by
    obtain ⟨-, u, hu, hu2, -⟩ := h.P j hj p hp
    exact hid (List.mem_map.2 ⟨u, hu, by rw [hu2, e]⟩)
  refine ⟨by rw [List.length_append, List.length_singleton]; exact hsw, fun j hj => ?_, fun j hj p hp => ?_, fun j hj => ?_, fun u hu hk => ?_⟩
  · obtain ⟨g1, g2⟩ := hget j hj
    have hw := h.W j hj
    have ha := h.sw.am j
    have hb := b2 j
    rw [g1, g2]
    split
    · rw [List.map_append, List.sum_append]
      simp only [List.map_cons, List.map_nil, List.sum_cons, List.sum_nil]; omega
    · omega
  · obtain ⟨g1, g2⟩ := hget j hj
    rw [g2] at hp
    have old : p ∈ s.2.getD j [] → 0 < p.2 ∧ ∃ u, u ∈ done ++ [t] ∧ u.id = p.1 ∧ takesT u (l.getD j default) = true ∧ (u.kind = 1 → p.2 ≤ (bearsQ u (l.getD j default)).1) := fun hp => by
      obtain ⟨q1, u, q2, q3⟩ := h.P j hj p hp
      exact ⟨q1, u, List.mem_append_left _ q2, q3⟩
    split at hp
    · rename_i hm
      rcases List.mem_append.1 hp with hp | hp
      · exact old hp
      · simp only [List.mem_singleton] at hp
        subst hp
        refine ⟨hm, t, by simp, rfl, ?_, fun hk => ?_⟩
        · cases hh : takesT t (l.getD j default) with
          | true => rfl
          | false => have := b3 j hj hh; omega
        · rw [← hq hk j hj]; exact Int.min_le_left _ _
    · exact old hp
  · obtain ⟨g1, g2⟩ := hget j hj
    rw [g2]
    split
    · rw [List.map_append, List.map_cons, List.map_nil, List.nodup_append]
      refine ⟨h.N j hj, by simp, fun a ha c hc => ?_⟩
      simp only [List.mem_singleton] at hc
      subst hc
      obtain ⟨p, hp, rfl⟩ := List.mem_map.1 ha
      exact hne j hj p hp
    · exact h.N j hj
  · have hlen := hsw.lg
    rcases List.mem_append.1 hu with hu | hu
    · have hnu : u.id ≠ t.id := fun e => hid (List.mem_map.2 ⟨u, hu, e⟩)
      refine Int.le_trans (sum_le_of (by rw [List.length_map, List.length_map, hlen, h.sw.lg]) fun j hj => ?_) (h.S u hu hk)
      rw [List.length_map, hlen] at hj
      rw [map_getD (amtI_nil _), map_getD (amtI_nil _), (hget j hj).2]
      split
      · rw [amtI_snoc, if_neg (fun e => hnu e.symm)]; omega
      · exact Int.le_refl _
    · simp only [List.mem_singleton] at hu
      subst hu
      refine Int.le_trans (sum_le_of (by rw [List.length_map, hlen, b1]) fun j hj => ?_) (b4 hk)
      rw [List.length_map, hlen] at hj
      rw [map_getD (amtI_nil _), (hget j hj).2]
      have h0 : amtI u.id (s.2.getD j []) = 0 := amtI_none (hne j hj)
      have hb := b2 j
      split
      · rw [amtI_snoc, if_pos rfl, h0]
        have := Int.min_le_left (b.getD j 0) (s.1.getD j 0); simp only; omega
      · rw [h0]; exact hb
theorem twrT_ok {l : List Ls} (hX : ∀ x, x ∈ l → lossX x = true) (hl : l.length ≤ 2000) : ∀ (r done : List Tr) (s : Sw) (rd : List Ls) (kd : Int), TwI l done s → (∀ t, t ∈ r → rightT t = true) → ((done ++ r).map (·.id)).Nodup → RdOk l rd → (kd = 1 → rd = l) →
    r.Pairwise (fun a b => a.kind ≤ b.kind) → (∀ t, t ∈ r → kd ≤ t.kind) → 1 ≤ kd → TwI l (done ++ r) (twrT l r s rd kd)
  | [], done, s, rd, kd, h, _, _, _, _, _, _, _ => by rw [List.append_nil, twrT]; exact h
  | t :: r, done, s, rd, kd, h, hR, hN, hr, h1, hp, hk, hk1 => by
    rw [twrT]
    have htk := hk t List.mem_cons_self
    have hpw := List.pairwise_cons.1 hp
    have hr' : RdOk l (if t.kind ≠ kd then withX l s.1 else rd) := by
      split
      · exact RdOk.next h.sw
      · exact hr
    have h1' : t.kind = 1 → (if t.kind ≠ kd then withX l s.1 else rd) = l := fun e => by
      have : kd = 1 := by omega
      rw [if_neg (by omega)]; exact h1 this
    have hid : t.id ∉ done.map (·.id) := by
      rw [List.map_append, List.map_cons, List.nodup_append] at hN
      intro hm
      exact hN.2.2 _ hm _ List.mem_cons_self rfl
    have := twrT_ok hX hl r (done ++ [t]) _ _ t.kind (h.step hX hl (hR t List.mem_cons_self) hid hr' h1') (fun u hu => hR u (List.mem_cons_of_mem _ hu)) (by simpa using hN) hr' h1' hpw.2 hpw.1 (by omega)
    simpa using this
theorem dup_iff : ∀ (ts : List Tr) (seen : List Int), dupT seen ts = false ↔ (∀ t, t ∈ ts → t.id ∉ seen) ∧ (ts.map (·.id)).Nodup
  | [], seen => by simp [dupT]
  | t :: r, seen => by
    rw [dupT]
    by_cases h : t.id ∈ seen
    · rw [if_pos h]
      constructor
      · intro e; cases e
      · intro e; exact absurd h (e.1 t List.mem_cons_self)
    · rw [if_neg h, dup_iff r (t.id :: seen), List.map_cons, List.nodup_cons]
      constructor
      · rintro ⟨h1, h2⟩
        refine ⟨fun u hu => ?_, fun hm => ?_, h2⟩
        · rcases List.mem_cons.1 hu with rfl | hu
          · exact h
          · exact fun e => h1 u hu (List.mem_cons_of_mem _ e)
        · obtain ⟨u, hu, e⟩ := List.mem_map.1 hm
          exact h1 u hu (by rw [e]; exact List.mem_cons_self)
      · rintro ⟨h1, h2, h3⟩
        refine ⟨fun u hu hm => ?_, h3⟩
        rcases List.mem_cons.1 hm with e | hm
        · exact h2 (List.mem_map.2 ⟨u, hu, e⟩)
        · exact h1 u (List.mem_cons_of_mem _ hu) hm
theorem sw0_tw {l : List Ls} (hX : ∀ x, x ∈ l → lossX x = true) : TwI l [] (sw0 l) := by
  have hz : ∀ j, (sw0 l).2.getD j [] = [] := fun j => by
    simp only [sw0, List.getD_eq_getElem?_getD, List.getElem?_replicate]; split <;> rfl
  refine ⟨sw0_ok l hX, fun j hj => ?_, fun j hj p hp => ?_, fun j hj => ?_, fun t ht => ?_⟩
  · rw [hz]
    simp only [sw0, List.map_nil, List.sum_nil, Int.zero_add, List.getD_eq_getElem?_getD, List.getElem?_map, List.getElem?_eq_getElem hj, Option.map_some, Option.getD_some]
  · rw [hz] at hp; simp at hp
  · rw [hz]; simp
  · simp at ht
theorem tower_ok {ts : List Tr} {l : List Ls} (h : mayT ts l = 0) : TwI l (ordL ts) (towerT ts l) ∧ (ordL ts).Perm ts := by
  obtain ⟨hR, hX, h1, h2, h3, -⟩ := may_ok h
  have hp := ordL_perm (ts := ts) (fun t ht => right_kind (hR t ht))
  have hnd := ((dup_iff ts []).1 h3).2
  have hR' : ∀ t, t ∈ ordL ts → rightT t = true := fun t ht => hR t (ordL_mem ht)
  have := twrT_ok hX h2 (ordL ts) [] (sw0 l) l 1 (sw0_tw hX) hR' (by simpa using (hp.map (·.id)).nodup_iff.2 hnd) (RdOk.self hX) (fun _ => rfl) (ordL_kinds ts) (fun t ht => by have := right_kind (hR' t ht); omega) (Int.le_refl _)
  rw [towerT_eq]
  exact ⟨by simpa using this, hp⟩
end Go.Proofs.Ytgpckelpmincmaa
end
section
set_option linter.unusedSimpArgs false
set_option linter.unusedVariables false
namespace Go.Proofs.Ytgpckelpmincmaa
set_option linter.unusedSimpArgs false
set_option linter.unusedVariables false
open Go.Bx
set_option maxRecDepth 10000
theorem flat_len : ∀ {G : List (List (Int × Int))} {n : Nat}, (∀ g, g ∈ G → g.length ≤ n) → G.flatten.length ≤ G.length * n
  | [], _, _ => by simp
  | g :: G, n, h => by
    have h1 := h g List.mem_cons_self
    have h2 := flat_len (G := G) (n := n) (fun x hx => h x (List.mem_cons_of_mem _ hx))
    rw [List.flatten_cons, List.length_append, List.length_cons, Nat.add_mul]; omega
structure OfOk (ts : List Tr) (l : List Ls) (o : List (List (Int × Int)) × List Int × Int) : Prop where
  lg : o.1.length ≤ l.length
  la : o.2.1.length ≤ l.length
  gl : ∀ g, g ∈ o.1 → g.length ≤ ts.length
  fl : o.1.flatten.length ≤ l.length * ts.length
theorem of_ok (ts : List Tr) (l : List Ls) : OfOk ts l (ofT ts l) := by
  unfold ofT
  by_cases h : mayT ts l = 0
  · rw [if_neg (by simp [h])]
    obtain ⟨h1, h2⟩ := tower_ok h
    have hsw := h1.sw
    rw [h2.length_eq] at hsw
    have hg : ∀ g, g ∈ (towerT ts l).2 → g.length ≤ ts.length := fun g hg => by
      obtain ⟨j, hj⟩ := List.mem_iff_getElem?.1 hg
      have := hsw.gl j g hj
      rw [if_neg (Nat.not_lt_zero j)] at this
      exact this
    refine ⟨by rw [hsw.lg]; exact Nat.le_refl _, by rw [hsw.la]; exact Nat.le_refl _, hg, ?_⟩
    have := flat_len hg
    rwa [hsw.lg] at this
  · rw [if_pos h]
    exact ⟨Nat.zero_le _, Nat.zero_le _, fun g hg => by simp at hg, Nat.zero_le _⟩
end Go.Proofs.Ytgpckelpmincmaa
end
section
set_option linter.unusedSimpArgs false
set_option linter.unusedVariables false
namespace Go.Proofs.Ytgpckelpmincmaa
set_option linter.unusedSimpArgs false
set_option linter.unusedVariables false
open Go.Bx
set_option maxRecDepth 10000
theorem get_of {l : List Ls} {j : Nat} (hj : j < l.length) (hX : ∀ x, x ∈ l → lossX x = true) : 0 ≤ (l.getD j default).amt ∧ (l.getD j default).amt ≤ 1000000000000000 := by
  have := lossX_iff.1 (hX (l.getD j default) (by rw [List.getD_eq_getElem?_getD, List.getElem?_eq_getElem hj]; exact List.getElem_mem hj))
  omega
theorem pos_take {g : List (Int × Int)} (h : ∀ p, p ∈ g → 0 < p.2) (k : Nat) : 0 ≤ ((g.take k).map (·.2)).sum ∧ ((g.take k).map (·.2)).sum ≤ (g.map (·.2)).sum := by
  have h1 := sum_nonneg (l := (g.take k).map (·.2)) (fun x hx => by
    obtain ⟨p, hp, rfl⟩ := List.mem_map.1 hx
    have := h p (List.mem_of_mem_take hp); omega)
  have h2 := sum_nonneg (l := (g.drop k).map (·.2)) (fun x hx => by
    obtain ⟨p, hp, rfl⟩ := List.mem_map.1 hx
    have := h p (List.mem_of_mem_drop hp); omega)
  have h3 : (g.map (·.2)).sum = ((g.take k).map (·.2)).sum + ((g.drop k).map (·.2)).sum := by rw [← List.sum_append, ← List.map_append, List.take_append_drop]
  omega
end Go.Proofs.Ytgpckelpmincmaa
end
section
set_option linter.unusedSimpArgs false
set_option linter.unusedVariables false
namespace Go.Proofs.Ytgpckelpmincmaa
set_option linter.unusedSimpArgs false
set_option linter.unusedVariables false
open Go.Bx
set_option maxRecDepth 10000
theorem sumC_eq (id : Int) : ∀ (g : List (Int × Int)) (a : Int), 0 ≤ a → (∀ p, p ∈ g → 0 < p.2) → a + (g.map (·.2)).sum ≤ 9000000000000000000 → sumC id a g = a + amtI id g
  | [], a, _, _, _ => by simp [sumC, amtI]
  | p :: g, a, h0, hp, hb => by
    have h1 := hp p List.mem_cons_self
    have hg := fun q hq => hp q (List.mem_cons_of_mem p hq)
    have hs := pos_take hg g.length
    rw [List.take_length] at hs
    rw [List.map_cons, List.sum_cons] at hb
    rw [sumC]
    have e : amtI id (p :: g) = (if p.1 = id then p.2 else 0) + amtI id g := by
      unfold amtI
      rw [List.filter_cons]
      by_cases hh : p.1 = id
      · rw [if_pos hh, if_pos (by simpa using hh), List.map_cons, List.sum_cons]
      · rw [if_neg hh, if_neg (by simpa using hh)]; omega
    rw [e]
    split
    · rw [wI (by omega), sumC_eq id g (a + p.2) (by omega) hg (by omega)]; omega
    · rw [sumC_eq id g a h0 hg (by omega)]; omega
theorem amtI_app (id : Int) (a b : List (Int × Int)) : amtI id (a ++ b) = amtI id a + amtI id b := by
  unfold amtI; rw [List.filter_append, List.map_append, List.sum_append]
theorem amtI_flat (id : Int) : ∀ G : List (List (Int × Int)), amtI id G.flatten = tot id G
  | [] => rfl
  | g :: G => by rw [List.flatten_cons, amtI_app, amtI_flat id G]; simp [tot]
theorem sum_flat : ∀ G : List (List (Int × Int)), (G.flatten.map (·.2)).sum = (G.map fun g => (g.map (·.2)).sum).sum
  | [] => rfl
  | g :: G => by rw [List.flatten_cons, List.map_append, List.sum_append, sum_flat G]; simp
theorem sum_const_le {B : Int} : ∀ {a : List Int}, (∀ x, x ∈ a → x ≤ B) → a.sum ≤ B * a.length
  | [], _ => by simp
  | x :: a, h => by
    have h1 := h x List.mem_cons_self
    have h2 := sum_const_le (a := a) (fun y hy => h y (List.mem_cons_of_mem _ hy))
    rw [List.sum_cons, List.length_cons]
    have : B * ((a.length + 1 : Nat) : Int) = B * a.length + B := by rw [Int.natCast_add, Int.mul_add]; simp
    omega
theorem tower_sums {ts : List Tr} {l : List Ls} (h : mayT ts l = 0) (hl : l.length ≤ 60) : ∀ t, t ∈ ts → sumC t.id 0 (towerT ts l).2.flatten = tot t.id (towerT ts l).2 ∧ (t.kind ≠ 1 → tot t.id (towerT ts l).2 ≤ roomT t) := by
  intro t ht
  obtain ⟨tw, hpm⟩ := tower_ok h
  obtain ⟨-, hX, -, -, -, -⟩ := may_ok h
  refine ⟨?_, tw.S t (hpm.mem_iff.2 ht)⟩
  have hW := tw.W; have pP := tw.P
  have hla := tw.sw.la; have hlg := tw.sw.lg; have ham := tw.sw.am
  generalize towerT ts l = s at *
  have hpos : ∀ p, p ∈ s.2.flatten → 0 < p.2 := fun p hp => by
    obtain ⟨g, hg, hp⟩ := List.mem_flatten.1 hp
    obtain ⟨j, hj⟩ := List.mem_iff_getElem?.1 hg
    have hjl : j < l.length := by have := (List.getElem?_eq_some_iff.1 hj).1; omega
    refine (pP j hjl p ?_).1
    rw [List.getD_eq_getElem?_getD, hj]; exact hp
  have hsum : (s.2.flatten.map (·.2)).sum ≤ 1000000000000000 * 60 := by
    rw [sum_flat]
    refine Int.le_trans (sum_const_le (B := 1000000000000000) fun x hx => ?_) (by rw [List.length_map]; omega)
    obtain ⟨g, hg, rfl⟩ := List.mem_map.1 hx
    obtain ⟨j, hj⟩ := List.mem_iff_getElem?.1 hg
    have hjl : j < l.length := by have := (List.getElem?_eq_some_iff.1 hj).1; omega
    have w := hW j hjl
    rw [List.getD_eq_getElem?_getD (l := s.2), hj, Option.getD_some] at w
    have := get_of hjl hX
    have := ham j
    omega
  rw [sumC_eq t.id _ 0 (Int.le_refl _) hpos (by omega), amtI_flat]; omega
theorem tower_bnd {ts : List Tr} {l : List Ls} (h : mayT ts l = 0) : ∀ t, t ∈ ts → ∀ j, j < l.length → ∀ p, p ∈ (towerT ts l).2.getD j [] → p.1 = t.id → takesT t (l.getD j default) = true ∧ ((bearsQ t (l.getD j default)).2 = true → p.2 ≤ (bearsQ t (l.getD j default)).1) := by
  intro t ht j hj p hp he
  obtain ⟨tw, hpm⟩ := tower_ok h
  obtain ⟨-, -, -, -, hd, -⟩ := may_ok h
  have hnd := ((dup_iff ts []).1 hd).2
  obtain ⟨-, u, hu, hu1, hu2, hu3⟩ := tw.P j hj p hp
  have hut : u = t := by
    have hu' := hpm.mem_iff.1 hu
    obtain ⟨a, ha⟩ := List.mem_iff_getElem?.1 hu'
    obtain ⟨b, hb⟩ := List.mem_iff_getElem?.1 ht
    have hal := (List.getElem?_eq_some_iff.1 ha)
    have hbl := (List.getElem?_eq_some_iff.1 hb)
    obtain ⟨ha1, ha2⟩ := hal
    obtain ⟨hb1, hb2⟩ := hbl
    rw [List.nodup_iff_pairwise_ne, List.pairwise_iff_getElem] at hnd
    rcases Nat.lt_trichotomy a b with hab | hab | hab
    · have := hnd a b (by simpa using ha1) (by simpa using hb1) hab
      simp only [List.getElem_map, ha2, hb2] at this
      exact absurd (hu1.trans he) this
    · subst hab; rw [← ha2, ← hb2]
    · have := hnd b a (by simpa using hb1) (by simpa using ha1) hab
      simp only [List.getElem_map, ha2, hb2] at this
      exact absurd (hu1.trans he).symm this
  subst hut
  refine ⟨hu2, fun hq => hu3 ?_⟩
  rw [bearsQ] at hq
  split at hq
  · rename_i h9; exact h9.1
  · cases hq
set_option maxHeartbeats 4000000 in
theorem lBounds (ts : List Tr) (l : List Ls) : Ctr Try.prog 5 [.d (slT ts), .d (slX l)] [] (.d (.bool true)) [] [] := by
  have cf := rFew ts l
  simp only [slT, slX] at cf
  refine ctr_pure Try.func5 ok5 rfl cc5 cr5 Try.ntmps5 (by simp) rfl rfl ?_; intro c hP hfn; simp only [kc5, slT, slX, vcb, ↓evSo_some, ↓reduceIte, reduceCtorEq, seval]
  repeat' first
      | (first
          | refine TR.p hP (by first | exact lAwake | exact cf) (by repeat' first | exact trivial | (intro _; assumption) | apply And.intro) ?_
          | refine TR.gp hP rfl (fun _ => by first | exact lAwake | exact cf) (fun _ => by repeat' first | exact trivial | (intro _; assumption) | apply And.intro) ?_
          | refine TR.pv hP rfl (by first | exact lAwake | exact cf) trivial (by repeat' first | exact trivial | (intro _; assumption) | apply And.intro) ?_
         try simp only [vcb, ↓evSo_some, ↓reduceIte, reduceCtorEq, seval])
      | refine And.intro (fun h => ?_) (fun h => ?_)
      | refine And.intro (by first | omega | (simp only [maxLen, decide_eq_true_eq, decide_eq_false_iff_not] at *; omega)) ?_
      | (refine TR.aslO rfl rfl rfl rfl trivial (Nat.le_of_ble_eq_true rfl) ?_
         try simp only [vcb, ↓evSo_some, ↓reduceIte, reduceCtorEq, seval])
      | refine And.intro trivial ?_
      | refine And.intro rfl ?_
      | fail
  · exact RetK.pure (by simp only [rs5, rsb, vcb, ↓evSo_some, ↓reduceIte, reduceCtorEq, seval]) (by (simp only [rs5, rsb, vcb, ↓evSo_some, ↓reduceIte, reduceCtorEq, seval, enb, vcb, ↓evSo_some, ↓reduceIte, reduceCtorEq, seval]) <;> (first | rfl))
  have hf : ts.length ≤ 20 ∧ l.length ≤ 60 := by simpa using h
  clear h cf
  have c1 := sTOf ts l (by omega) (by omega)
  by_cases h0 : mayT ts l = 0
  · have ok := of_ok ts l
    have ho : ofT ts l = ((towerT ts l).2, (towerT ts l).1, 0) := by rw [ofT, if_neg (by simp [h0])]
    rw [ho] at c1 ok
    have hsm := tower_sums h0 hf.2
    have hbd := tower_bnd h0
    have hsw := (tower_ok h0).1.sw
    have hla := hsw.la; have hlg := hsw.lg
    have ok3 := ok.fl
    have okg := ok.gl
    have hm : l.length * ts.length ≤ 60 * 20 := Nat.mul_le_mul hf.2 hf.1
    clear hsw ho ok
    generalize towerT ts l = s at *
    obtain ⟨A, G⟩ := s
    simp only at hla hlg c1 hsm hbd ok3 okg
    have c2 := sSums ts G (by omega) (by omega) (by omega)
    have hsl : (sumsT ts G).length = ts.length := by rw [sumsT, List.length_map]
    have hsg : ∀ k t, ts[k]? = some t → (sumsT ts G).getD k 0 = sumC t.id 0 G.flatten := fun k t ht => by
      rw [sumsT, List.getD_eq_getElem?_getD, List.getElem?_map, ht]; rfl
    simp only [slT, slX, slK] at c1
    simp only [slT, slK, gC, hlg] at c2
    generalize sumsT ts G = S at *
    repeat' first
        | (first
            | refine TR.p hP (by first | exact c1 | exact c2) (by repeat' first | exact trivial | (intro _; assumption) | apply And.intro) ?_
            | refine TR.gp hP rfl (fun _ => by first | exact c1 | exact c2) (fun _ => by repeat' first | exact trivial | (intro _; assumption) | apply And.intro) ?_
            | refine TR.pv hP rfl (by first | exact c1 | exact c2) trivial (by repeat' first | exact trivial | (intro _; assumption) | apply And.intro) ?_
           try simp only [bne_self_eq_false, hla, hlg, hsl, vcb, ↓evSo_some, ↓reduceIte, reduceCtorEq, seval])
        | refine And.intro (fun h => ?_) (fun h => ?_)
        | refine And.intro (by first | omega | (simp only [maxLen, decide_eq_true_eq, decide_eq_false_iff_not] at *; omega)) ?_
        | (refine TR.aslO rfl rfl rfl rfl trivial (Nat.le_of_ble_eq_true rfl) ?_
           try simp only [bne_self_eq_false, hla, hlg, hsl, vcb, ↓evSo_some, ↓reduceIte, reduceCtorEq, seval])
        | refine And.intro trivial ?_
        | refine And.intro rfl ?_
        | fail
    clear c1 c2
    refine vcC.loop (X := Nat) (fun k => ⟨[(0, .d (slT ts)), (1, .d (slX l)), (5, .d (.bool true)), (7, .d (gC G)), (10, .d (slK .i64 S)), (11, .d (.int .i64 k))], [], []⟩)
      (fun k => k ≤ ts.length) (fun k => ts.length - k) 0 (Nat.zero_le _) (Wk.of _ hfn rfl (by simp only [slT, slX, slK, gC, hlg, hsl, enb, vcb, ↓evSo_some, ↓reduceIte, reduceCtorEq, seval]) (by simp only [enb, vcb, ↓evSo_some, ↓reduceIte, reduceCtorEq, seval])) ?_
    rintro k hk
    simp only [slT, slX, gC, vcb, ↓evSo_some, ↓reduceIte, reduceCtorEq, seval]
    refine ⟨fun h1 => ?_, fun h1 => ?_⟩
    · have hlt : k < ts.length := by have := of_decide_eq_true h1; omega
      obtain ⟨t, hd, hg, htm, hat⟩ := drop_at hlt
      have r1 := hsg k t hat
      have r2 := hsm t htm
      have ewk : IntKind.i64.wrap ((k : Int) + 1) = ((k + 1 : Nat) : Int) := wS (by omega)
      have cr := s20 t
      simp only [vT, cT] at cr
      simp only [hg, vcb, ↓evSo_some, ↓reduceIte, reduceCtorEq, seval]
      repeat' first
          | (first
              | refine TR.p hP (by first | exact cr) (by repeat' first | exact trivial | (intro _; assumption) | apply And.intro) ?_
              | refine TR.gp hP rfl (fun _ => by first | exact cr) (fun _ => by repeat' first | exact trivial | (intro _; assumption) | apply And.intro) ?_
              | refine TR.pv hP rfl (by first | exact cr) trivial (by repeat' first | exact trivial | (intro _; assumption) | apply And.intro) ?_
             try simp only [hg, vcb, ↓evSo_some, ↓reduceIte, reduceCtorEq, seval])
          | refine And.intro (fun h => ?_) (fun h => ?_)
          | refine And.intro (by first | omega | (simp only [maxLen, decide_eq_true_eq, decide_eq_false_iff_not] at *; omega)) ?_
          | (refine TR.aslO rfl rfl rfl rfl trivial (Nat.le_of_ble_eq_true rfl) ?_
             try simp only [hg, vcb, ↓evSo_some, ↓reduceIte, reduceCtorEq, seval])
          | refine And.intro trivial ?_
          | refine And.intro rfl ?_
          | fail
      · exfalso
        rw [Bool.and_eq_true] at h
        have h3 : t.kind ≠ 1 := by simpa using h.1
        have h4 := of_decide_eq_true h.2
        have := r2.2 h3
        omega
      clear h
      refine vcC.loop (X := Nat) (fun i => ⟨[(0, .d (slT ts)), (1, .d (slX l)), (5, .d (.bool true)), (7, .d (gC G)), (10, .d (slK .i64 S)), (11, .d (.int .i64 k)), (12, .d (.int .i64 i))], [], []⟩)
        (fun i => i ≤ l.length) (fun i => l.length - i) 0 (Nat.zero_le _) (Wk.of _ hfn rfl (by simp only [slT, slX, gC, enb, vcb, ↓evSo_some, ↓reduceIte, reduceCtorEq, seval]) (by simp only [enb, vcb, ↓evSo_some, ↓reduceIte, reduceCtorEq, seval])) ?_
      rintro i hi
      simp only [slT, slX, gC, hlg, vcb, ↓evSo_some, ↓reduceIte, reduceCtorEq, seval]
      refine ⟨fun h2 => ?_, fun h2 => ?_⟩
      · have hlt2 : i < l.length := by have := of_decide_eq_true h2; omega
        obtain ⟨g, hd2, hg2, hgm, hat2⟩ := drop_at (show i < G.length by omega)
        obtain ⟨x, -, hx, hxm, -⟩ := drop_at hlt2
        have gl := okg g hgm
        have hb := hbd t htm i hlt2
        rw [hg2, hx] at hb
        have ewi : IntKind.i64.wrap ((i : Int) + 1) = ((i + 1 : Nat) : Int) := wS (by omega)
        have ck := s23 t x
        have cq := q31 t x
        simp only [vT, cT, vX, cX'] at ck cq
        refine vcC.loop (X := Nat) (fun m => ⟨[(0, .d (slT ts)), (1, .d (slX l)), (5, .d (.bool true)), (7, .d (gC G)), (10, .d (slK .i64 S)), (11, .d (.int .i64 k)), (12, .d (.int .i64 i)), (13, .d (.int .i64 m))], [], []⟩)
          (fun m => m ≤ g.length) (fun m => g.length - m) 0 (Nat.zero_le _) (Wk.of _ hfn rfl (by simp only [slT, slX, gC, hlg, enb, vcb, ↓evSo_some, ↓reduceIte, reduceCtorEq, seval]) (by simp only [enb, vcb, ↓evSo_some, ↓reduceIte, reduceCtorEq, seval])) ?_
        rintro m hm
        simp only [slT, slX, gC, hlg, nestD, hg2, vcb, ↓evSo_some, ↓reduceIte, reduceCtorEq, seval]
        refine ⟨⟨by omega, by omega⟩, fun h => ?_, fun h => ?_⟩
        · have hlt3 : m < g.length := by have := of_decide_eq_true h; omega
          obtain ⟨p, hd3, hp, hpm, hat3⟩ := drop_at hlt3
          have hbp := hb p hpm
          have ewm : IntKind.i64.wrap ((m : Int) + 1) = ((m + 1 : Nat) : Int) := wS (by omega)
          clear h
          simp only [hp, hg, cC, hg2, nestD, vcb, ↓evSo_some, ↓reduceIte, reduceCtorEq, seval]
          repeat' first
              | refine And.intro (fun h => ?_) (fun h => ?_)
              | refine And.intro (by first | omega | (simp only [maxLen, decide_eq_true_eq, decide_eq_false_iff_not] at *; omega)) ?_
              | (refine TR.aslO rfl rfl rfl rfl trivial (Nat.le_of_ble_eq_true rfl) ?_
                 try simp only [nestD, hg, hg2, hp, cC, vcb, ↓evSo_some, ↓reduceIte, reduceCtorEq, seval])
              | refine And.intro trivial ?_
              | refine And.intro rfl ?_
              | fail
          · exact lopK.on (m + 1) hlt3 (by omega) (Wk.of _ hfn rfl (by simp only [slT, slX, gC, hlg, ewm, enb, vcb, ↓evSo_some, ↓reduceIte, reduceCtorEq, seval]) (by simp only [enb, vcb, ↓evSo_some, ↓reduceIte, reduceCtorEq, seval]))
          · have he : p.1 = t.id := by simpa using h
            obtain ⟨e1, e2⟩ := hbp he
            clear h
            simp only [hg, hx, vcb, ↓evSo_some, ↓reduceIte, reduceCtorEq, seval]
            repeat' first
                | (first
                    | refine TR.p hP (by first | exact cq | exact ck) (by repeat' first | exact trivial | (intro _; assumption) | apply And.intro) ?_
                    | refine TR.gp hP rfl (fun _ => by first | exact cq | exact ck) (fun _ => by repeat' first | exact trivial | (intro _; assumption) | apply And.intro) ?_
                    | refine TR.pv hP rfl (by first | exact cq | exact ck) trivial (by repeat' first | exact trivial | (intro _; assumption) | apply And.intro) ?_
                   try simp only [nestD, hg, hg2, hp, hx, cC, e1, vcb, ↓evSo_some, ↓reduceIte, reduceCtorEq, seval])
                | refine And.intro (fun h => ?_) (fun h => ?_)
                | refine And.intro (by first | omega | (simp only [maxLen, decide_eq_true_eq, decide_eq_false_iff_not] at *; omega)) ?_
                | (refine TR.aslO rfl rfl rfl rfl trivial (Nat.le_of_ble_eq_true rfl) ?_
                   try simp only [nestD, hg, hg2, hp, hx, cC, e1, vcb, ↓evSo_some, ↓reduceIte, reduceCtorEq, seval])
                | refine And.intro trivial ?_
                | refine And.intro rfl ?_
                | fail
            · exfalso
              rw [Bool.and_eq_true] at h
              have h3 := of_decide_eq_true h.2
              have := e2 h.1
              omega
            · exact lopK.on (m + 1) hlt3 (by omega) (Wk.of _ hfn rfl (by simp only [slT, slX, gC, hlg, ewm, enb, vcb, ↓evSo_some, ↓reduceIte, reduceCtorEq, seval]) (by simp only [enb, vcb, ↓evSo_some, ↓reduceIte, reduceCtorEq, seval]))
        · repeat' first
              | refine And.intro (fun h => ?_) (fun h => ?_)
              | refine And.intro (by first | omega | (simp only [maxLen, decide_eq_true_eq, decide_eq_false_iff_not] at *; omega)) ?_
              | (refine TR.aslO rfl rfl rfl rfl trivial (Nat.le_of_ble_eq_true rfl) ?_
                 try simp only [vcb, ↓evSo_some, ↓reduceIte, reduceCtorEq, seval])
              | refine And.intro trivial ?_
              | refine And.intro rfl ?_
              | fail
          exact lopK.on (i + 1) hlt2 (by omega) (Wk.of _ hfn rfl (by simp only [slT, slX, gC, hlg, ewi, enb, vcb, ↓evSo_some, ↓reduceIte, reduceCtorEq, seval]) (by simp only [enb, vcb, ↓evSo_some, ↓reduceIte, reduceCtorEq, seval]))
      · repeat' first
            | refine And.intro (fun h => ?_) (fun h => ?_)
            | refine And.intro (by first | omega | (simp only [maxLen, decide_eq_true_eq, decide_eq_false_iff_not] at *; omega)) ?_
            | (refine TR.aslO rfl rfl rfl rfl trivial (Nat.le_of_ble_eq_true rfl) ?_
               try simp only [vcb, ↓evSo_some, ↓reduceIte, reduceCtorEq, seval])
            | refine And.intro trivial ?_
            | refine And.intro rfl ?_
            | fail
        exact lopK.on (k + 1) hlt (by omega) (Wk.of _ hfn rfl (by simp only [slT, slX, gC, hlg, ewk, enb, vcb, ↓evSo_some, ↓reduceIte, reduceCtorEq, seval]) (by simp only [enb, vcb, ↓evSo_some, ↓reduceIte, reduceCtorEq, seval]))
    · repeat' first
          | refine And.intro (fun h => ?_) (fun h => ?_)
          | refine And.intro (by first | omega | (simp only [maxLen, decide_eq_true_eq, decide_eq_false_iff_not] at *; omega)) ?_
          | (refine TR.aslO rfl rfl rfl rfl trivial (Nat.le_of_ble_eq_true rfl) ?_
             try simp only [vcb, ↓evSo_some, ↓reduceIte, reduceCtorEq, seval])
          | refine And.intro trivial ?_
          | refine And.intro rfl ?_
          | fail
      exact RetK.pure (by simp only [rs5, rsb, vcb, ↓evSo_some, ↓reduceIte, reduceCtorEq, seval]) (by (simp only [rs5, rsb, vcb, ↓evSo_some, ↓reduceIte, reduceCtorEq, seval, enb, vcb, ↓evSo_some, ↓reduceIte, reduceCtorEq, seval]) <;> (first | rfl))
  · have ho : ofT ts l = ([], [], mayT ts l) := by rw [ofT, if_pos h0]
    rw [ho] at c1
    simp only [slT, slX, slK, List.length_nil] at c1
    have hb : (mayT ts l != 0) = true := by simpa using h0
    repeat' first
        | (first
            | refine TR.p hP (by first | exact c1) (by repeat' first | exact trivial | (intro _; assumption) | apply And.intro) ?_
            | refine TR.gp hP rfl (fun _ => by first | exact c1) (fun _ => by repeat' first | exact trivial | (intro _; assumption) | apply And.intro) ?_
            | refine TR.pv hP rfl (by first | exact c1) trivial (by repeat' first | exact trivial | (intro _; assumption) | apply And.intro) ?_
           try simp only [hb, vcb, ↓evSo_some, ↓reduceIte, reduceCtorEq, seval])
        | refine And.intro (fun h => ?_) (fun h => ?_)
        | refine And.intro (by first | omega | (simp only [maxLen, decide_eq_true_eq, decide_eq_false_iff_not] at *; omega)) ?_
        | (refine TR.aslO rfl rfl rfl rfl trivial (Nat.le_of_ble_eq_true rfl) ?_
           try simp only [hb, vcb, ↓evSo_some, ↓reduceIte, reduceCtorEq, seval])
        | refine And.intro trivial ?_
        | refine And.intro rfl ?_
        | fail
    all_goals exact RetK.pure (by simp only [rs5, rsb, vcb, ↓evSo_some, ↓reduceIte, reduceCtorEq, seval]) (by (simp only [rs5, rsb, vcb, ↓evSo_some, ↓reduceIte, reduceCtorEq, seval, enb, vcb, ↓evSo_some, ↓reduceIte, reduceCtorEq, seval]) <;> (first | decide))
end Go.Proofs.Ytgpckelpmincmaa
end
section
set_option linter.unusedSimpArgs false
set_option linter.unusedVariables false
namespace Go.Proofs.Ytgpckelpmincmaa
set_option linter.unusedSimpArgs false
set_option linter.unusedVariables false
open Go.ChangeShapes Go.WideShapes Go.ChangeAt Go.RowKit Go.Bx
set_option maxRecDepth 100000
theorem towerBounds_lifted (os : Os) (started : os.Started) (H : Type) (enc : TypeId × Value → H) :
    ReturnsInHanded {} Try.checked os 5 .any (Rows.towerBoundsSpec.pre6 enc Try.prog Try.f5 Rows.towerBoundsRow.domain false) (Rows.towerBoundsSpec.post enc Try.prog Try.f5 false true false false) := by
  refine returnsInHanded_of_change (C := Try.checked) Try.own started (by kernel_rfl) Try.func5
    (ChangeSpec.witness6 (enc := enc) (C := Try.checked) false ⟨#[], #[.slice none 0 0, .slice none 0 0], []⟩ 8 (by kernel_rfl) (by kernel_rfl) (by kernel_rfl) (by kernel_rfl)) ?_
  intro W base args ds gs before hval hW _ _
  refine law_calls (tb := 4) Try.laidOut (by kernel_rfl) (by kernel_rfl) Try.underlying4 rfl ?_ ?_ W base args ds gs before hval hW
  · intro ds hd
    match ds, hd with
    | [_, _], _ => rfl
  · intro W base args ds p hval hA
    rw [show Try.f5.params.toList = [22, 23] by kernel_rfl] at hA
    obtain ⟨v0, v1, d0, d1, p0, p1, rfl, rfl, _, h0, h1⟩ := trodAll_two hA
    obtain ⟨ts, tsk, r0⟩ := treaties_reads.cell (by kernel_rfl) (hval 0 22 v0 rfl rfl) h0
    obtain ⟨l, lk, r1⟩ := losses_reads.cell (by kernel_rfl) (hval 1 23 v1 rfl rfl) h1
    exact ⟨[.d (slT ts), .d (slX l)], rfl, rel2 r0 r1, lBounds ts l⟩
theorem towerBounds_holds : Rows.TowerBoundsSaid :=
  OpenClaim.holds_of_wide 5 Try.f5 rfl rfl rfl rfl rfl rfl rfl ⟨rfl, rfl, rfl, rfl, rfl⟩ rfl rfl rfl rfl rfl (by kernel_rfl) Try.func5 (by kernel_rfl)
    (of_decide_eq_true (by kernel_rfl)) (by unfold Func.isWrapper; first | (rw [if_pos (by decide +kernel)]; kernel_rfl) | (rw [if_neg (by decide +kernel)]; exact ⟨rfl, rfl⟩))
    (fun os started H enc _ => towerBounds_lifted os started H enc)
end Go.Proofs.Ytgpckelpmincmaa
end
