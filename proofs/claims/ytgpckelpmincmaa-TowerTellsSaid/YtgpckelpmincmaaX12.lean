import Derived.Test.YtgpckelpmincmaaX11
section
set_option linter.unusedSimpArgs false
set_option linter.unusedVariables false
namespace Go.Proofs.Ytgpckelpmincmaa
set_option linter.unusedSimpArgs false
set_option linter.unusedVariables false
open Go.Bx
set_option maxRecDepth 10000
def amtI (id : Int) (g : List (Int × Int)) : Int := ((g.filter (fun p => p.1 == id)).map (·.2)).sum
def tot (id : Int) (G : List (List (Int × Int))) : Int := (G.map (amtI id)).sum
theorem amtI_snoc (id : Int) (g : List (Int × Int)) (p : Int × Int) : amtI id (g ++ [p]) = amtI id g + (if p.1 = id then p.2 else 0) := by
  unfold amtI
  rw [List.filter_append, List.map_append, List.sum_append]
  congr 1
  by_cases h : p.1 = id
  · rw [if_pos h]; simp [h]
  · rw [if_neg h]; simp [h]
theorem amtI_none {id : Int} {g : List (Int × Int)} (h : ∀ p, p ∈ g → p.1 ≠ id) : amtI id g = 0 := by
  unfold amtI
  rw [List.filter_eq_nil_iff.2 (fun p hp => by simpa using h p hp)]; rfl
theorem sum_le_of : ∀ {a b : List Int}, a.length = b.length → (∀ j, j < a.length → a.getD j 0 ≤ b.getD j 0) → a.sum ≤ b.sum
  | [], [], _, _ => Int.le_refl _
  | [], _ :: _, h, _ => by simp at h
  | _ :: _, [], h, _ => by simp at h
  | x :: a, y :: b, h, hj => by
    have h0 := hj 0 (by simp)
    have h1 := sum_le_of (a := a) (b := b) (by simpa using h) (fun j hjl => by simpa using hj (j + 1) (by simpa using hjl))
    simp only [List.getD_cons_zero] at h0
    simp only [List.sum_cons]; omega
theorem map_getD {α : Type} {f : List α → Int} (h0 : f [] = 0) (G : List (List α)) (j : Nat) : (G.map f).getD j 0 = f (G.getD j []) := by
  simp only [List.getD_eq_getElem?_getD, List.getElem?_map]
  cases h : G[j]? with
  | none => simp [h0]
  | some g => rfl
theorem amtI_nil (id : Int) : amtI id [] = 0 := rfl
structure TwI (l : List Ls) (done : List Tr) (s : Sw) : Prop where
  sw : SwI l done.length 0 s
  W : ∀ j, j < l.length → ((s.2.getD j []).map (·.2)).sum + s.1.getD j 0 = (l.getD j default).amt
  P : ∀ j, j < l.length → ∀ p, p ∈ s.2.getD j [] → 0 < p.2 ∧ ∃ t, t ∈ done ∧ t.id = p.1 ∧ takesT t (l.getD j default) = true ∧ (t.kind = 1 → p.2 ≤ (bearsQ t (l.getD j default)).1)
  N : ∀ j, j < l.length → ((s.2.getD j []).map (·.1)).Nodup
  S : ∀ t, t ∈ done → t.kind ≠ 1 → tot t.id s.2 ≤ roomT t
theorem bearsA_q {t : Tr} (h : t.kind = 1) (l : List Ls) {j : Nat} (hj : j < l.length) : (bearsA t l).getD j 0 = (bearsQ t (l.getD j default)).1 := by
  unfold bearsA
  rw [if_neg (by omega), if_neg (by omega)]
  simp only [List.getD_eq_getElem?_getD, List.getElem?_map, List.getElem?_eq_getElem hj, Option.map_some, Option.getD_some]
theorem TwI.step {l rd : List Ls} {done : List Tr} {s : Sw} (h : TwI l done s) (hX : ∀ x, x ∈ l → lossX x = true) (hl : l.length ≤ 2000) {t : Tr} (ht : rightT t = true) (hid : t.id ∉ done.map (·.id)) (hr : RdOk l rd) (h1 : t.kind = 1 → rd = l) :
    TwI l (done ++ [t]) (swe t.id (bearsA t rd) s) := by
  obtain ⟨b1, b2, b3, b4⟩ := rd_bears hX hl hr ht
  have hget := swe_get t.id b1 h.sw.la h.sw.lg
  have hsw := swp_ok t.id b2 b1 h.sw
  have hq : t.kind = 1 → ∀ j, j < l.length → (bearsA t rd).getD j 0 = (bearsQ t (l.getD j default)).1 := fun hk j hj => by rw [h1 hk]; exact bearsA_q hk l hj
  generalize bearsA t rd = b at *
  have hne : ∀ j, j < l.length → ∀ p, p ∈ s.2.getD j [] → p.1 ≠ t.id := fun j hj p hp e => by
    obtain ⟨-, u, hu, hu2, -⟩ := h.P j hj p hp
    exact hid (List.mem_map.2 ⟨u, hu, by rw [hu2, e]⟩)
  refine ⟨by rw [List.length_append, List.length_singleton]; exact hsw, fun j hj => ?_, fun j hj p hp => ?_, fun j hj => ?_, fun u hu hk => ?_⟩
  · obtain ⟨g1, g2⟩ := hget j hj
    have hw := h.W j hj
    have ha := h.sw.am j
    have hb := b2 j
    rw [g1, g2]
    split
    · rw [List.map_append, List.sum_append]
      simp only [List.map_cons, List.map_nil, List.sum_cons, List.sum_nil]; omega
    · omega
  · obtain ⟨g1, g2⟩ := hget j hj
    rw [g2] at hp
    have old : p ∈ s.2.getD j [] → 0 < p.2 ∧ ∃ u, u ∈ done ++ [t] ∧ u.id = p.1 ∧ takesT u (l.getD j default) = true ∧ (u.kind = 1 → p.2 ≤ (bearsQ u (l.getD j default)).1) := fun hp => by
      obtain ⟨q1, u, q2, q3⟩ := h.P j hj p hp
      exact ⟨q1, u, List.mem_append_left _ q2, q3⟩
    split at hp
    · rename_i hm
      rcases List.mem_append.1 hp with hp | hp
      · exact old hp
      · simp only [List.mem_singleton] at hp
        subst hp
        refine ⟨hm, t, by simp, rfl, ?_, fun hk => ?_⟩
        · cases hh : takesT t (l.getD j default) with
          | true => rfl
          | false => have := b3 j hj hh; omega
        · rw [← hq hk j hj]; exact Int.min_le_left _ _
    · exact old hp
  · obtain ⟨g1, g2⟩ := hget j hj
    rw [g2]
    split
    · rw [List.map_append, List.map_cons, List.map_nil, List.nodup_append]
      refine ⟨h.N j hj, by simp, fun a ha c hc => ?_⟩
      simp only [List.mem_singleton] at hc
      subst hc
      obtain ⟨p, hp, rfl⟩ := List.mem_map.1 ha
      exact hne j hj p hp
    · exact h.N j hj
  · have hlen := hsw.lg
    rcases List.mem_append.1 hu with hu | hu
    · have hnu : u.id ≠ t.id := fun e => hid (List.mem_map.2 ⟨u, hu, e⟩)
      refine Int.le_trans (sum_le_of (by rw [List.length_map, List.length_map, hlen, h.sw.lg]) fun j hj => ?_) (h.S u hu hk)
      rw [List.length_map, hlen] at hj
      rw [map_getD (amtI_nil _), map_getD (amtI_nil _), (hget j hj).2]
      split
      · rw [amtI_snoc, if_neg (fun e => hnu e.symm)]; omega
      · exact Int.le_refl _
    · simp only [List.mem_singleton] at hu
      subst hu
      refine Int.le_trans (sum_le_of (by rw [List.length_map, hlen, b1]) fun j hj => ?_) (b4 hk)
      rw [List.length_map, hlen] at hj
      rw [map_getD (amtI_nil _), (hget j hj).2]
      have h0 : amtI u.id (s.2.getD j []) = 0 := amtI_none (hne j hj)
      have hb := b2 j
      split
      · rw [amtI_snoc, if_pos rfl, h0]
        have := Int.min_le_left (b.getD j 0) (s.1.getD j 0); simp only; omega
      · rw [h0]; exact hb
theorem twrT_ok {l : List Ls} (hX : ∀ x, x ∈ l → lossX x = true) (hl : l.length ≤ 2000) : ∀ (r done : List Tr) (s : Sw) (rd : List Ls) (kd : Int), TwI l done s → (∀ t, t ∈ r → rightT t = true) → ((done ++ r).map (·.id)).Nodup → RdOk l rd → (kd = 1 → rd = l) →
    r.Pairwise (fun a b => a.kind ≤ b.kind) → (∀ t, t ∈ r → kd ≤ t.kind) → 1 ≤ kd → TwI l (done ++ r) (twrT l r s rd kd)
  | [], done, s, rd, kd, h, _, _, _, _, _, _, _ => by rw [List.append_nil, twrT]; exact h
  | t :: r, done, s, rd, kd, h, hR, hN, hr, h1, hp, hk, hk1 => by
    rw [twrT]
    have htk := hk t List.mem_cons_self
    have hpw := List.pairwise_cons.1 hp
    have hr' : RdOk l (if t.kind ≠ kd then withX l s.1 else rd) := by
      split
      · exact RdOk.next h.sw
      · exact hr
    have h1' : t.kind = 1 → (if t.kind ≠ kd then withX l s.1 else rd) = l := fun e => by
      have : kd = 1 := by omega
      rw [if_neg (by omega)]; exact h1 this
    have hid : t.id ∉ done.map (·.id) := by
      rw [List.map_append, List.map_cons, List.nodup_append] at hN
      intro hm
      exact hN.2.2 _ hm _ List.mem_cons_self rfl
    have := twrT_ok hX hl r (done ++ [t]) _ _ t.kind (h.step hX hl (hR t List.mem_cons_self) hid hr' h1') (fun u hu => hR u (List.mem_cons_of_mem _ hu)) (by simpa using hN) hr' h1' hpw.2 hpw.1 (by omega)
    simpa using this
theorem dup_iff : ∀ (ts : List Tr) (seen : List Int), dupT seen ts = false ↔ (∀ t, t ∈ ts → t.id ∉ seen) ∧ (ts.map (·.id)).Nodup
  | [], seen => by simp [dupT]
  | t :: r, seen => by
    rw [dupT]
    by_cases h : t.id ∈ seen
    · rw [if_pos h]
      constructor
      · intro e; cases e
      · intro e; exact absurd h (e.1 t List.mem_cons_self)
    · rw [if_neg h, dup_iff r (t.id :: seen), List.map_cons, List.nodup_cons]
      constructor
      · rintro ⟨h1, h2⟩
        refine ⟨fun u hu => ?_, fun hm => ?_, h2⟩
        · rcases List.mem_cons.1 hu with rfl | hu
          · exact h
          · exact fun e => h1 u hu (List.mem_cons_of_mem _ e)
        · obtain ⟨u, hu, e⟩ := List.mem_map.1 hm
          exact h1 u hu (by rw [e]; exact List.mem_cons_self)
      · rintro ⟨h1, h2, h3⟩
        refine ⟨fun u hu hm => ?_, h3⟩
        rcases List.mem_cons.1 hm with e | hm
        · exact h2 (List.mem_map.2 ⟨u, hu, e⟩)
        · exact h1 u (List.mem_cons_of_mem _ hu) hm
theorem sw0_tw {l : List Ls} (hX : ∀ x, x ∈ l → lossX x = true) : TwI l [] (sw0 l) := by
  have hz : ∀ j, (sw0 l).2.getD j [] = [] := fun j => by
    simp only [sw0, List.getD_eq_getElem?_getD, List.getElem?_replicate]; split <;> rfl
  refine ⟨sw0_ok l hX, fun j hj => ?_, fun j hj p hp => ?_, fun j hj => ?_, fun t ht => ?_⟩
  · rw [hz]
    simp only [sw0, List.map_nil, List.sum_nil, Int.zero_add, List.getD_eq_getElem?_getD, List.getElem?_map, List.getElem?_eq_getElem hj, Option.map_some, Option.getD_some]
  · rw [hz] at hp; simp at hp
  · rw [hz]; simp
  · simp at ht
theorem tower_ok {ts : List Tr} {l : List Ls} (h : mayT ts l = 0) : TwI l (ordL ts) (towerT ts l) ∧ (ordL ts).Perm ts := by
  obtain ⟨hR, hX, h1, h2, h3, -⟩ := may_ok h
  have hp := ordL_perm (ts := ts) (fun t ht => right_kind (hR t ht))
  have hnd := ((dup_iff ts []).1 h3).2
  have hR' : ∀ t, t ∈ ordL ts → rightT t = true := fun t ht => hR t (ordL_mem ht)
  have := twrT_ok hX h2 (ordL ts) [] (sw0 l) l 1 (sw0_tw hX) hR' (by simpa using (hp.map (·.id)).nodup_iff.2 hnd) (RdOk.self hX) (fun _ => rfl) (ordL_kinds ts) (fun t ht => by have := right_kind (hR' t ht); omega) (Int.le_refl _)
  rw [towerT_eq]
  exact ⟨by simpa using this, hp⟩
end Go.Proofs.Ytgpckelpmincmaa
end
section
set_option linter.unusedSimpArgs false
set_option linter.unusedVariables false
namespace Go.Proofs.Ytgpckelpmincmaa
set_option linter.unusedSimpArgs false
set_option linter.unusedVariables false
open Go.Bx
set_option maxRecDepth 10000
theorem flat_len : ∀ {G : List (List (Int × Int))} {n : Nat}, (∀ g, g ∈ G → g.length ≤ n) → G.flatten.length ≤ G.length * n
  | [], _, _ => by simp
  | g :: G, n, h => by
    have h1 := h g List.mem_cons_self
    have h2 := flat_len (G := G) (n := n) (fun x hx => h x (List.mem_cons_of_mem _ hx))
    rw [List.flatten_cons, List.length_append, List.length_cons, Nat.add_mul]; omega
structure OfOk (ts : List Tr) (l : List Ls) (o : List (List (Int × Int)) × List Int × Int) : Prop where
  lg : o.1.length ≤ l.length
  la : o.2.1.length ≤ l.length
  gl : ∀ g, g ∈ o.1 → g.length ≤ ts.length
  fl : o.1.flatten.length ≤ l.length * ts.length
theorem of_ok (ts : List Tr) (l : List Ls) : OfOk ts l (ofT ts l) := by
  unfold ofT
  by_cases h : mayT ts l = 0
  · rw [if_neg (by simp [h])]
    obtain ⟨h1, h2⟩ := tower_ok h
    have hsw := h1.sw
    rw [h2.length_eq] at hsw
    have hg : ∀ g, g ∈ (towerT ts l).2 → g.length ≤ ts.length := fun g hg => by
      obtain ⟨j, hj⟩ := List.mem_iff_getElem?.1 hg
      have := hsw.gl j g hj
      rw [if_neg (Nat.not_lt_zero j)] at this
      exact this
    refine ⟨by rw [hsw.lg]; exact Nat.le_refl _, by rw [hsw.la]; exact Nat.le_refl _, hg, ?_⟩
    have := flat_len hg
    rwa [hsw.lg] at this
  · rw [if_pos h]
    exact ⟨Nat.zero_le _, Nat.zero_le _, fun g hg => by simp at hg, Nat.zero_le _⟩
theorem same_refl (l : List Int) (hl : l.length ≤ 9223372036854775807) : Ctr Try.prog 14 [.d (slK .i64 l), .d (slK .i64 l)] [] (.d (.bool true)) [] [] := by
  have h := s17 l l hl
  simpa only [decide_true] using h
theorem sameC_refl (a : List (List (Int × Int))) (ha : a.length ≤ 1000000) (hal : ∀ g, g ∈ a → g.length ≤ 1000000) : Ctr Try.prog 13 [.d (gC a), .d (gC a)] [] (.d (.bool true)) [] [] := by
  have h := rSameC a a ha hal ha hal
  simpa only [decide_true] using h
set_option maxHeartbeats 2000000 in
theorem lTells (ts : List Tr) (l : List Ls) (hp : ∀ x, x ∈ l → x.per ≤ 9223372036854775807) : Ctr Try.prog 3 [.d (slT ts), .d (slX l)] [] (.d (.bool true)) [] [] := by
  have cf := rFew ts l
  simp only [slT, slX] at cf
  refine ctr_pure Try.func3 ok3 rfl cc3 cr3 Try.ntmps3 (by simp) rfl rfl ?_; intro c hP hfn; simp only [kc3, slT, slX, vcb, ↓evSo_some, ↓reduceIte, reduceCtorEq, seval]
  repeat' first
      | (first
          | refine TR.p hP (by first | exact lAwake | exact cf) (by repeat' first | exact trivial | (intro _; assumption) | apply And.intro) ?_
          | refine TR.gp hP rfl (fun _ => by first | exact lAwake | exact cf) (fun _ => by repeat' first | exact trivial | (intro _; assumption) | apply And.intro) ?_
          | refine TR.pv hP rfl (by first | exact lAwake | exact cf) trivial (by repeat' first | exact trivial | (intro _; assumption) | apply And.intro) ?_
         try simp only [vcb, ↓evSo_some, ↓reduceIte, reduceCtorEq, seval])
      | refine And.intro (fun h => ?_) (fun h => ?_)
      | refine And.intro (by first | omega | (simp only [maxLen, decide_eq_true_eq, decide_eq_false_iff_not] at *; omega)) ?_
      | (refine TR.aslO rfl rfl rfl rfl trivial (Nat.le_of_ble_eq_true rfl) ?_
         try simp only [vcb, ↓evSo_some, ↓reduceIte, reduceCtorEq, seval])
      | refine And.intro trivial ?_
      | refine And.intro rfl ?_
      | fail
  · exact RetK.pure (by simp only [rs3, rsb, vcb, ↓evSo_some, ↓reduceIte, reduceCtorEq, seval]) (by (simp only [rs3, rsb, vcb, ↓evSo_some, ↓reduceIte, reduceCtorEq, seval, enb, vcb, ↓evSo_some, ↓reduceIte, reduceCtorEq, seval]) <;> (first | rfl))
  have hf : ts.length ≤ 20 ∧ l.length ≤ 60 := by simpa using h
  clear h cf
  have c1 := sTOf ts l (by omega) (by omega)
  have c2 := rROf ts l (by omega) (by omega) hp
  rw [rof_eq] at c2
  have ok := of_ok ts l
  have o1 := ok.lg; have o2 := ok.la; have o3 := ok.fl
  have hm : l.length * ts.length ≤ 60 * 20 := Nat.mul_le_mul hf.2 hf.1
  have c3 := sameC_refl (ofT ts l).1 (by omega) (fun g hg => by have := ok.gl g hg; omega)
  have c4 := same_refl (ofT ts l).2.1 (by omega)
  have c5 := sOrder ts (by omega)
  have c6 := rOrder ts (by omega)
  have c7 := same_refl (orderT ts) (by
    have := (ordP_ok ts).2.length_eq
    have := plsT_len ts 0
    rw [orderT_eq, List.length_map]; omega)
  have c8 := sSums ts (ofT ts l).1 (by omega) (by omega) (by omega)
  have c9 := rSums ts (ofT ts l).1 (by omega) (by omega) (by omega)
  have c10 := same_refl (sumsT ts (ofT ts l).1) (by rw [sumsT, List.length_map]; omega)
  generalize ofT ts l = o at *
  generalize orderT ts = od at *
  generalize sumsT ts o.1 = sm at *
  simp only [slT, slX, slK, gC] at c1 c2 c3 c4 c5 c6 c7 c8 c9 c10
  repeat' first
      | (first
          | refine TR.p hP (by first | exact c1 | exact c2 | exact c3 | exact c4 | exact c5 | exact c6 | exact c7 | exact c8 | exact c9 | exact c10) (by repeat' first | exact trivial | (intro _; assumption) | apply And.intro) ?_
          | refine TR.gp hP rfl (fun _ => by first | exact c1 | exact c2 | exact c3 | exact c4 | exact c5 | exact c6 | exact c7 | exact c8 | exact c9 | exact c10) (fun _ => by repeat' first | exact trivial | (intro _; assumption) | apply And.intro) ?_
          | refine TR.pv hP rfl (by first | exact c1 | exact c2 | exact c3 | exact c4 | exact c5 | exact c6 | exact c7 | exact c8 | exact c9 | exact c10) trivial (by repeat' first | exact trivial | (intro _; assumption) | apply And.intro) ?_
         try simp only [vcb, ↓evSo_some, ↓reduceIte, reduceCtorEq, seval])
      | refine And.intro (fun h => ?_) (fun h => ?_)
      | refine And.intro (by first | omega | (simp only [maxLen, decide_eq_true_eq, decide_eq_false_iff_not] at *; omega)) ?_
      | (refine TR.aslO rfl rfl rfl rfl trivial (Nat.le_of_ble_eq_true rfl) ?_
         try simp only [vcb, ↓evSo_some, ↓reduceIte, reduceCtorEq, seval])
      | refine And.intro trivial ?_
      | refine And.intro rfl ?_
      | fail
  exact RetK.pure (by simp only [rs3, rsb, vcb, ↓evSo_some, ↓reduceIte, reduceCtorEq, seval]) (by (simp only [rs3, rsb, vcb, ↓evSo_some, ↓reduceIte, reduceCtorEq, seval, enb, vcb, ↓evSo_some, ↓reduceIte, reduceCtorEq, seval]) <;> (first | simp))
end Go.Proofs.Ytgpckelpmincmaa
end
section
set_option linter.unusedSimpArgs false
set_option linter.unusedVariables false
namespace Go.Proofs.Ytgpckelpmincmaa
set_option linter.unusedSimpArgs false
set_option linter.unusedVariables false
open Go.ChangeShapes Go.WideShapes Go.ChangeAt Go.RowKit Go.Bx
set_option maxRecDepth 100000
theorem towerTells_lifted (os : Os) (started : os.Started) (H : Type) (enc : TypeId × Value → H) :
    ReturnsInHanded {} Try.checked os 3 .any (Rows.towerTellsSpec.pre6 enc Try.prog Try.f3 Rows.towerTellsRow.domain false) (Rows.towerTellsSpec.post enc Try.prog Try.f3 false true false false) := by
  refine returnsInHanded_of_change (C := Try.checked) Try.own started (by kernel_rfl) Try.func3
    (ChangeSpec.witness6 (enc := enc) (C := Try.checked) false ⟨#[], #[.slice none 0 0, .slice none 0 0], []⟩ 8 (by kernel_rfl) (by kernel_rfl) (by kernel_rfl) (by kernel_rfl)) ?_
  intro W base args ds gs before hval hW _ _
  refine law_calls (tb := 4) Try.laidOut (by kernel_rfl) (by kernel_rfl) Try.underlying4 rfl ?_ ?_ W base args ds gs before hval hW
  · intro ds hd
    match ds, hd with
    | [_, _], _ => rfl
  · intro W base args ds p hval hA
    rw [show Try.f3.params.toList = [22, 23] by kernel_rfl] at hA
    obtain ⟨v0, v1, d0, d1, p0, p1, rfl, rfl, _, h0, h1⟩ := trodAll_two hA
    obtain ⟨ts, tsk, r0⟩ := treaties_reads.cell (by kernel_rfl) (hval 0 22 v0 rfl rfl) h0
    obtain ⟨l, lk, r1⟩ := losses_reads.cell (by kernel_rfl) (hval 1 23 v1 rfl rfl) h1
    exact ⟨[.d (slT ts), .d (slX l)], rfl, rel2 r0 r1, lTells ts l (fun x hx => (lk.2 x hx).2.2.2.1.2)⟩
theorem towerTells_holds : Rows.TowerTellsSaid :=
  OpenClaim.holds_of_wide 3 Try.f3 rfl rfl rfl rfl rfl rfl rfl ⟨rfl, rfl, rfl, rfl, rfl⟩ rfl rfl rfl rfl rfl (by kernel_rfl) Try.func3 (by kernel_rfl)
    (of_decide_eq_true (by kernel_rfl)) (by unfold Func.isWrapper; first | (rw [if_pos (by decide +kernel)]; kernel_rfl) | (rw [if_neg (by decide +kernel)]; exact ⟨rfl, rfl⟩))
    (fun os started H enc _ => towerTells_lifted os started H enc)
end Go.Proofs.Ytgpckelpmincmaa
end
