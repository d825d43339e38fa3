import Derived.Test.YtgpckelpmincmaaXF10
section
set_option linter.unusedSimpArgs false
set_option linter.unusedVariables false
namespace Go.Proofs.Ytgpckelpmincmaa
set_option linter.unusedSimpArgs false
set_option linter.unusedVariables false
open Go.Bx
set_option maxRecDepth 10000
def amtI (id : Int) (g : List (Int × Int)) : Int := ((g.filter (fun p => p.1 == id)).map (·.2)).sum
def tot (id : Int) (G : List (List (Int × Int))) : Int := (G.map (amtI id)).sum
theorem amtI_snoc (id : Int) (g : List (Int × Int)) (p : Int × Int) : amtI id (g ++ [p]) = amtI id g + (if p.1 = id then p.2 else 0) := by
  unfold amtI
  rw [List.filter_append, List.map_append, List.sum_append]
  congr 1
  by_cases h : p.1 = id
  · rw [if_pos h]; simp [h]
  · rw [if_neg h]; simp [h]
theorem amtI_none {id : Int} {g : List (Int × Int)} (h : ∀ p, p ∈ g → p.1 ≠ id) : amtI id g = 0 := by
  unfold amtI
  rw [List.filter_eq_nil_iff.2 (fun p hp => by simpa using h p hp)]; rfl
theorem sum_le_of : ∀ {a b : List Int}, a.length = b.length → (∀ j, j < a.length → a.getD j 0 ≤ b.getD j 0) → a.sum ≤ b.sum
  | [], [], _, _ => Int.le_refl _
  | [], _ :: _, h, _ => by simp at h
  | _ :: _, [], h, _ => by simp at h
  | x :: a, y :: b, h, hj => by
    have h0 := hj 0 (by simp)
    have h1 := sum_le_of (a := a) (b := b) (by simpa using h) (fun j hjl => by simpa using hj (j + 1) (by simpa using hjl))
    simp only [List.getD_cons_zero] at h0
    simp only [List.sum_cons]; omega
theorem map_getD {α : Type} {f : List α → Int} (h0 : f [] = 0) (G : List (List α)) (j : Nat) : (G.map f).getD j 0 = f (G.getD j []) := by
  simp only [List.getD_eq_getElem?_getD, List.getElem?_map]
  cases h : G[j]? with
  | none => simp [h0]
  | some g => rfl
theorem amtI_nil (id : Int) : amtI id [] = 0 := rfl
structure TwI (l : List Ls) (done : List Tr) (s : Sw) : Prop where
  sw : SwI l done.length 0 s
  W : ∀ j, j < l.length → ((s.2.getD j []).map (·.2)).sum + s.1.getD j 0 = (l.getD j default).amt
  P : ∀ j, j < l.length → ∀ p, p ∈ s.2.getD j [] → 0 < p.2 ∧ ∃ t, t ∈ done ∧ t.id = p.1 ∧ takesT t (l.getD j default) = true ∧ (t.kind = 1 → p.2 ≤ (bearsQ t (l.getD j default)).1)
  N : ∀ j, j < l.length → ((s.2.getD j []).map (·.1)).Nodup
  S : ∀ t, t ∈ done → t.kind ≠ 1 → tot t.id s.2 ≤ roomT t
theorem bearsA_q {t : Tr} (h : t.kind = 1) (l : List Ls) {j : Nat} (hj : j < l.length) : (bearsA t l).getD j 0 = (bearsQ t (l.getD j default)).1 := by
  unfold bearsA
  rw [if_neg (by omega), if_neg (by omega)]
  simp only [List.getD_eq_getElem?_getD, List.getElem?_map, List.getElem?_eq_getElem hj, Option.map_some, Option.getD_some]
theorem TwI.step {l rd : List Ls} {done : List Tr} {s : Sw} (h : TwI l done s) (hX : ∀ x, x ∈ l → lossX x = true) (hl : l.length ≤ 2000) {t : Tr} (ht : rightT t = true) (hid : t.id ∉ done.map (·.id)) (hr : RdOk l rd) (h1 : t.kind = 1 → rd = l) :
    TwI l (done ++ [t]) (swe t.id (bearsA t rd) s) := by
  obtain ⟨b1, b2, b3, b4⟩ := rd_bears hX hl hr ht
  have hget := swe_get t.id b1 h.sw.la h.sw.lg
  have hsw := swp_ok t.id b2 b1 h.sw
  have hq : t.kind = 1 → ∀ j, j < l.length → (bearsA t rd).getD j 0 = (bearsQ t (l.getD j default)).1 := fun hk j hj => by rw [h1 hk]; exact bearsA_q hk l hj
  generalize bearsA t rd = b at *
  have hne : ∀ j, j < l.length → ∀ p, p ∈ s.2.getD j [] → p.1 ≠ t.id := fun j hj p hp e => by
    obtain ⟨-, u, hu, hu2, -⟩ := h.P j hj p hp
    exact hid (List.mem_map.2 ⟨u, hu, by rw [hu2, e]⟩)
  refine ⟨by rw [List.length_append, List.length_singleton]; exact hsw, fun j hj => ?_, fun j hj p hp => ?_, fun j hj => ?_, fun u hu hk => ?_⟩
  · obtain ⟨g1, g2⟩ := hget j hj
    have hw := h.W j hj
    have ha := h.sw.am j
    have hb := b2 j
    rw [g1, g2]
    split
    · rw [List.map_append, List.sum_append]
      simp only [List.map_cons, List.map_nil, List.sum_cons, List.sum_nil]; omega
    · omega
  · obtain ⟨g1, g2⟩ := hget j hj
    rw [g2] at hp
    have old : p ∈ s.2.getD j [] → 0 < p.2 ∧ ∃ u, u ∈ done ++ [t] ∧ u.id = p.1 ∧ takesT u (l.getD j default) = true ∧ (u.kind = 1 → p.2 ≤ (bearsQ u (l.getD j default)).1) := fun hp => by
      obtain ⟨q1, u, q2, q3⟩ := h.P j hj p hp
      exact ⟨q1, u, List.mem_append_left _ q2, q3⟩
    split at hp
    · rename_i hm
      rcases List.mem_append.1 hp with hp | hp
      · exact old hp
      · simp only [List.mem_singleton] at hp
        subst hp
        refine ⟨hm, t, by simp, rfl, ?_, fun hk => ?_⟩
        · cases hh : takesT t (l.getD j default) with
          | true => rfl
          | false => have := b3 j hj hh; omega
        · rw [← hq hk j hj]; exact Int.min_le_left _ _
    · exact old hp
  · obtain ⟨g1, g2⟩ := hget j hj
    rw [g2]
    split
    · rw [List.map_append, List.map_cons, List.map_nil, List.nodup_append]
      refine ⟨h.N j hj, by simp, fun a ha c hc => ?_⟩
      simp only [List.mem_singleton] at hc
      subst hc
      obtain ⟨p, hp, rfl⟩ := List.mem_map.1 ha
      exact hne j hj p hp
    · exact h.N j hj
  · have hlen := hsw.lg
    rcases List.mem_append.1 hu with hu | hu
    · have hnu : u.id ≠ t.id := fun e => hid (List.mem_map.2 ⟨u, hu, e⟩)
      refine Int.le_trans (sum_le_of (by rw [List.length_map, List.length_map, hlen, h.sw.lg]) fun j hj => ?_) (h.S u hu hk)
      rw [List.length_map, hlen] at hj
      rw [map_getD (amtI_nil _), map_getD (amtI_nil _), (hget j hj).2]
      split
      · rw [amtI_snoc, if_neg (fun e => hnu e.symm)]; omega
      · exact Int.le_refl _
    · simp only [List.mem_singleton] at hu
      subst hu
      refine Int.le_trans (sum_le_of (by rw [List.length_map, hlen, b1]) fun j hj => ?_) (b4 hk)
      rw [List.length_map, hlen] at hj
      rw [map_getD (amtI_nil _), (hget j hj).2]
      have h0 : amtI u.id (s.2.getD j []) = 0 := amtI_none (hne j hj)
      have hb := b2 j
      split
      · rw [amtI_snoc, if_pos rfl, h0]
        have := Int.min_le_left (b.getD j 0) (s.1.getD j 0); simp only; omega
      · rw [h0]; exact hb
theorem twrT_ok {l : List Ls} (hX : ∀ x, x ∈ l → lossX x = true) (hl : l.length ≤ 2000) : ∀ (r done : List Tr) (s : Sw) (rd : List Ls) (kd : Int), TwI l done s → (∀ t, t ∈ r → rightT t = true) → ((done ++ r).map (·.id)).Nodup → RdOk l rd → (kd = 1 → rd = l) →
    r.Pairwise (fun a b => a.kind ≤ b.kind) → (∀ t, t ∈ r → kd ≤ t.kind) → 1 ≤ kd → TwI l (done ++ r) (twrT l r s rd kd)
  | [], done, s, rd, kd, h, _, _, _, _, _, _, _ => by rw [List.append_nil, twrT]; exact h
  | t :: r, done, s, rd, kd, h, hR, hN, hr, h1, hp, hk, hk1 => by
    rw [twrT]
    have htk := hk t List.mem_cons_self
    have hpw := List.pairwise_cons.1 hp
    have hr' : RdOk l (if t.kind ≠ kd then withX l s.1 else rd) := by
      split
      · exact RdOk.next h.sw
      · exact hr
    have h1' : t.kind = 1 → (if t.kind ≠ kd then withX l s.1 else rd) = l := fun e => by
      have : kd = 1 := by omega
      rw [if_neg (by omega)]; exact h1 this
    have hid : t.id ∉ done.map (·.id) := by
      rw [List.map_append, List.map_cons, List.nodup_append] at hN
      intro hm
      exact hN.2.2 _ hm _ List.mem_cons_self rfl
    have := twrT_ok hX hl r (done ++ [t]) _ _ t.kind (h.step hX hl (hR t List.mem_cons_self) hid hr' h1') (fun u hu => hR u (List.mem_cons_of_mem _ hu)) (by simpa using hN) hr' h1' hpw.2 hpw.1 (by omega)
    simpa using this
theorem dup_iff : ∀ (ts : List Tr) (seen : List Int), dupT seen ts = false ↔ (∀ t, t ∈ ts → t.id ∉ seen) ∧ (ts.map (·.id)).Nodup
  | [], seen => by simp [dupT]
  | t :: r, seen => by
    rw [dupT]
    by_cases h : t.id ∈ seen
    · rw [if_pos h]
      constructor
      · intro e; cases e
      · intro e; exact absurd h (e.1 t List.mem_cons_self)
    · rw [if_neg h, dup_iff r (t.id :: seen), List.map_cons, List.nodup_cons]
      constructor
      · rintro ⟨h1, h2⟩
        refine ⟨fun u hu => ?_, fun hm => ?_, h2⟩
        · rcases List.mem_cons.1 hu with rfl | hu
          · exact h
          · exact fun e => h1 u hu (List.mem_cons_of_mem _ e)
        · obtain ⟨u, hu, e⟩ := List.mem_map.1 hm
          exact h1 u hu (by rw [e]; exact List.mem_cons_self)
      · rintro ⟨h1, h2, h3⟩
        refine ⟨fun u hu hm => ?_, h3⟩
        rcases List.mem_cons.1 hm with e | hm
        · exact h2 (List.mem_map.2 ⟨u, hu, e⟩)
        · exact h1 u (List.mem_cons_of_mem _ hu) hm
theorem sw0_tw {l : List Ls} (hX : ∀ x, x ∈ l → lossX x = true) : TwI l [] (sw0 l) := by
  have hz : ∀ j, (sw0 l).2.getD j [] = [] := fun j => by
    simp only [sw0, List.getD_eq_getElem?_getD, List.getElem?_replicate]; split <;> rfl
  refine ⟨sw0_ok l hX, fun j hj => ?_, fun j hj p hp => ?_, fun j hj => ?_, fun t ht => ?_⟩
  · rw [hz]
    simp only [sw0, List.map_nil, List.sum_nil, Int.zero_add, List.getD_eq_getElem?_getD, List.getElem?_map, List.getElem?_eq_getElem hj, Option.map_some, Option.getD_some]
  · rw [hz] at hp; simp at hp
  · rw [hz]; simp
  · simp at ht
theorem tower_ok {ts : List Tr} {l : List Ls} (h : mayT ts l = 0) : TwI l (ordL ts) (towerT ts l) ∧ (ordL ts).Perm ts := by
  obtain ⟨hR, hX, h1, h2, h3, -⟩ := may_ok h
  have hp := ordL_perm (ts := ts) (fun t ht => right_kind (hR t ht))
  have hnd := ((dup_iff ts []).1 h3).2
  have hR' : ∀ t, t ∈ ordL ts → rightT t = true := fun t ht => hR t (ordL_mem ht)
  have := twrT_ok hX h2 (ordL ts) [] (sw0 l) l 1 (sw0_tw hX) hR' (by simpa using (hp.map (·.id)).nodup_iff.2 hnd) (RdOk.self hX) (fun _ => rfl) (ordL_kinds ts) (fun t ht => by have := right_kind (hR' t ht); omega) (Int.le_refl _)
  rw [towerT_eq]
  exact ⟨by simpa using this, hp⟩
end Go.Proofs.Ytgpckelpmincmaa
end
section
set_option linter.unusedSimpArgs false
set_option linter.unusedVariables false
namespace Go.Proofs.Ytgpckelpmincmaa
set_option linter.unusedSimpArgs false
set_option linter.unusedVariables false
open Go.Bx
set_option maxRecDepth 10000
theorem flat_len : ∀ {G : List (List (Int × Int))} {n : Nat}, (∀ g, g ∈ G → g.length ≤ n) → G.flatten.length ≤ G.length * n
  | [], _, _ => by simp
  | g :: G, n, h => by
    have h1 := h g List.mem_cons_self
    have h2 := flat_len (G := G) (n := n) (fun x hx => h x (List.mem_cons_of_mem _ hx))
    rw [List.flatten_cons, List.length_append, List.length_cons, Nat.add_mul]; omega
structure OfOk (ts : List Tr) (l : List Ls) (o : List (List (Int × Int)) × List Int × Int) : Prop where
  lg : o.1.length ≤ l.length
  la : o.2.1.length ≤ l.length
  gl : ∀ g, g ∈ o.1 → g.length ≤ ts.length
  fl : o.1.flatten.length ≤ l.length * ts.length
theorem of_ok (ts : List Tr) (l : List Ls) : OfOk ts l (ofT ts l) := by
  unfold ofT
  by_cases h : mayT ts l = 0
  · rw [if_neg (by simp [h])]
    obtain ⟨h1, h2⟩ := tower_ok h
    have hsw := h1.sw
    rw [h2.length_eq] at hsw
    have hg : ∀ g, g ∈ (towerT ts l).2 → g.length ≤ ts.length := fun g hg => by
      obtain ⟨j, hj⟩ := List.mem_iff_getElem?.1 hg
      have := hsw.gl j g hj
      rw [if_neg (Nat.not_lt_zero j)] at this
      exact this
    refine ⟨by rw [hsw.lg]; exact Nat.le_refl _, by rw [hsw.la]; exact Nat.le_refl _, hg, ?_⟩
    have := flat_len hg
    rwa [hsw.lg] at this
  · rw [if_pos h]
    exact ⟨Nat.zero_le _, Nat.zero_le _, fun g hg => by simp at hg, Nat.zero_le _⟩
theorem same_refl (l : List Int) (hl : l.length ≤ 9223372036854775807) : Ctr Try.prog 14 [.d (slK .i64 l), .d (slK .i64 l)] [] (.d (.bool true)) [] [] := by
  have h := s17 l l hl
  simpa only [decide_true] using h
end Go.Proofs.Ytgpckelpmincmaa
end
section
set_option linter.unusedSimpArgs false
set_option linter.unusedVariables false
namespace Go.Proofs.Ytgpckelpmincmaa
set_option linter.unusedSimpArgs false
set_option linter.unusedVariables false
open Go.Bx
set_option maxRecDepth 10000
theorem get_of' {l : List Ls} {j : Nat} (hj : j < l.length) (hX : ∀ x, x ∈ l → lossX x = true) : 0 ≤ (l.getD j default).amt ∧ (l.getD j default).amt ≤ 1000000000000000 := by
  have := lossX_iff.1 (hX (l.getD j default) (by rw [List.getD_eq_getElem?_getD, List.getElem?_eq_getElem hj]; exact List.getElem_mem hj))
  omega
theorem perm_two {α : Type} {l : List α} {a b : α} (h : l.Perm [a, b]) : l = [a, b] ∨ l = [b, a] := by
  have hl := h.length_eq
  match l, hl with
  | [x, y], _ =>
    have hx : x ∈ [a, b] := h.mem_iff.1 (by simp)
    simp only [List.mem_cons, List.not_mem_nil, or_false] at hx
    rcases hx with rfl | rfl
    · have := (List.perm_cons x).1 h
      rw [List.perm_singleton] at this
      simp at this; subst this; exact .inl rfl
    · have h2 : [x, y].Perm [x, a] := h.trans (List.Perm.swap _ _ _)
      have := (List.perm_cons x).1 h2
      rw [List.perm_singleton] at this
      simp at this; subst this; exact .inr rfl
theorem deal_full (t : Tr) {B : Int} (hB : ∀ x, partT t x ≤ B) : ∀ (l : List Ls) (left : Int), (∀ x, x ∈ l → lossX x = true) → B * l.length ≤ left → left ≤ 1000000000000000000 → 0 ≤ B → dealT t left l = l.map fun x => if takesT t x = true then partT t x.amt else 0
  | [], _, _, _, _, _ => rfl
  | x :: r, left, hx, hl, h63, h0 => by
    have hxx := lossX_iff.1 (hx x List.mem_cons_self)
    have hp := part_bounds t (amt := x.amt) (by omega) (by omega)
    have hb := hB x.amt
    have e : B * ((x :: r).length : Int) = B * r.length + B := by rw [List.length_cons, Int.natCast_add, Int.mul_add]; simp
    have hnn : 0 ≤ B * (r.length : Int) := Int.mul_nonneg h0 (by omega)
    rw [dealT, List.map_cons]
    by_cases h : takesT t x = true
    · rw [if_pos h, if_pos h, show min (partT t x.amt) left = partT t x.amt by omega, wI (by omega), deal_full t hB r _ (fun y hy => hx y (List.mem_cons_of_mem _ hy)) (by omega) (by omega) h0]
    · rw [if_neg h, if_neg h, deal_full t hB r left (fun y hy => hx y (List.mem_cons_of_mem _ hy)) (by omega) h63 h0]
def stT (id h w : Int) : Tr := ⟨id, 2, 1, 292195, 0, h, w, 100, 255⟩
theorem st_right {id h w : Int} (h1 : 1 ≤ id ∧ id ≤ 2) (h2 : 0 ≤ h ∧ h ≤ 100000000000) (h3 : 1 ≤ w ∧ w ≤ 100000000000) : rightT (stT id h w) = true := by
  have e1 : manyR 1 292195 = 292194 := by decide +kernel
  have a1 : inB 1 1000000000 id = true := inB_iff.2 (by omega)
  have a2 : inB 1 255 (255 : Int) = true := by decide
  have a3 : inB 0 1000000000000000 h = true := inB_iff.2 (by omega)
  have a4 : inB 0 1000000000000000 w = true := inB_iff.2 (by omega)
  have a5 : inB 0 100 (100 : Int) = true := by decide
  simp only [rightT, stT, e1, a1, a2, a3, a4, a5]
  have h7 : 0 < w := by omega
  simp [h7]
theorem st_high {id h w : Int} (h1 : 1 ≤ id ∧ id ≤ 2) (h2 : 0 ≤ h ∧ h ≤ 100000000000) (h3 : 1 ≤ w ∧ w ≤ 100000000000) : highT (stT id h w) = true := by
  unfold highT; rw [st_right h1 h2 h3]; rfl
def stK (x : Ls) : Bool := lossX x && inS 1 292195 x.day && bitB 255 x.per
theorem st_takes {id h w : Int} (h1 : 1 ≤ id ∧ id ≤ 2) (h2 : 0 ≤ h ∧ h ≤ 100000000000) (h3 : 1 ≤ w ∧ w ≤ 100000000000) (x : Ls) : takesT (stT id h w) x = stK x := by
  unfold takesT stK; rw [st_right h1 h2 h3]; simp [stT]
theorem st_part {id h w : Int} (h1 : 1 ≤ id ∧ id ≤ 2) (h2 : 0 ≤ h ∧ h ≤ 100000000000) (h3 : 1 ≤ w ∧ w ≤ 100000000000) {amt : Int} (ha : 0 ≤ amt ∧ amt ≤ 1000000000000000) : partT (stT id h w) amt = if h < amt then min w (amt - h) else 0 := by
  rw [partT_eq _ ha.1 (by omega), st_high h1 h2 h3]
  simp only [true_and]; rfl
theorem st_bears {id h w : Int} (h1 : 1 ≤ id ∧ id ≤ 2) (h2 : 0 ≤ h ∧ h ≤ 100000000000) (h3 : 1 ≤ w ∧ w ≤ 100000000000) {l : List Ls} (hX : ∀ x, x ∈ l → lossX x = true) (hl : l.length ≤ 60) :
    bearsA (stT id h w) l = l.map fun x => if stK x = true then (if h < x.amt then min w (x.amt - h) else 0) else 0 := by
  have hr := st_right h1 h2 h3
  have hany : l.any (fun x => !(lossX x)) = false := List.any_eq_false.2 fun x h => by simp [hX x h]
  have hroom : roomT (stT id h w) = w * 101 := by
    have := (roomT_eq (stT id h w)).1
    rw [if_pos (st_high h1 h2 h3)] at this
    rw [this]; rfl
  have e : bearsT (stT id h w) l = (dealT (stT id h w) (w * 101) l, 0) := by
    rw [bearsT, if_neg (by rw [hr, hany]; simp [stT]), if_neg (by omega), hroom]
  unfold bearsA
  rw [if_pos (show (stT id h w).kind = 2 from rfl), e]
  simp only
  have hB : ∀ x, partT (stT id h w) x ≤ w := fun x => by
    unfold partT
    split
    · omega
    · exact Int.min_le_left _ _
  rw [deal_full (stT id h w) hB l _ hX (Int.mul_le_mul_of_nonneg_left (by omega) (by omega)) (by omega) (by omega)]
  refine List.map_congr_left fun x hx => ?_
  have hxx := lossX_iff.1 (hX x hx)
  rw [st_takes h1 h2 h3, st_part h1 h2 h3 (by omega)]
theorem st_may {ts : List Tr} {l : List Ls} (hl : l.length ≤ 60) (ht : ts.length ≤ 2) (hR : ∀ t, t ∈ ts → rightT t = true ∧ t.kind = 2) (hd : (ts.map (·.id)).Nodup) : mayT ts l = if l.any (fun x => !(lossX x)) = true then 1 else 0 := by
  have h1 : ts.any (fun t => !(rightT t)) = false := List.any_eq_false.2 fun t h => by simp [(hR t h).1]
  have h2 : dupT [] ts = false := (dup_iff ts []).2 ⟨fun _ _ => by simp, hd⟩
  have h3 : l.any (overT ts) = false := by
    refine List.any_eq_false.2 fun x _ => ?_
    unfold overT bpsT
    rw [List.filter_eq_nil_iff.2 (fun t ht => by simp [(hR t ht).2])]
    simp
  unfold mayT
  rw [h1, h2, h3, Bool.false_or]
  split
  · rfl
  · rw [if_neg (by omega), if_neg (by simp), if_neg (by simp)]
theorem tower_two {a b : Tr} {l : List Ls} (h : mayT [a, b] l = 0) (ha : a.kind = 2) (hb : b.kind = 2) : ∀ j, j < l.length → (towerT [a, b] l).1.getD j 0 = max 0 ((l.getD j default).amt - (bearsA a l).getD j 0 - (bearsA b l).getD j 0) := by
  obtain ⟨hR, hX, -, hls, -, -⟩ := may_ok h
  have hpm := (tower_ok h).2
  have hs0 := sw0_ok l hX
  have hw : withX l (sw0 l).1 = l := with_self l
  have key : ∀ x y : Tr, x ∈ [a, b] → y ∈ [a, b] → x.kind = 2 → y.kind = 2 → ∀ j, j < l.length → (twrT l [x, y] (sw0 l) l 1).1.getD j 0 = max 0 ((l.getD j default).amt - (bearsA x l).getD j 0 - (bearsA y l).getD j 0) := by
    intro x y hx hy kx ky j hj
    have h0 : (sw0 l).1.getD j 0 = (l.getD j default).amt := by
      simp only [sw0, List.getD_eq_getElem?_getD, List.getElem?_map, List.getElem?_eq_getElem hj, Option.map_some, Option.getD_some]
    have hbd := get_of' hj hX
    obtain ⟨x1, x2, -, -⟩ := rd_bears hX hls (RdOk.self hX) (hR x hx)
    obtain ⟨y1, y2, -, -⟩ := rd_bears hX hls (RdOk.self hX) (hR y hy)
    have r1 : (if x.kind ≠ 1 then withX l (sw0 l).1 else l) = l := by rw [hw]; simp
    have hs1 := swp_ok x.id x2 x1 hs0
    have g1 := (swe_get x.id x1 hs0.la hs0.lg j hj).1
    have g2 := (swe_get y.id y1 hs1.la hs1.lg j hj).1
    rw [twrT, r1, twrT, if_neg (by omega), twrT, g2, g1, h0]
    have := x2 j; have := y2 j
    omega
  intro j hj
  rw [towerT_eq]
  rcases perm_two hpm with e | e <;> rw [e]
  · exact key a b (by simp) (by simp) ha hb j hj
  · rw [key b a (by simp) (by simp) hb ha j hj]; omega
theorem tower_one {a : Tr} {l : List Ls} (h : mayT [a] l = 0) : ∀ j, j < l.length → (towerT [a] l).1.getD j 0 = max 0 ((l.getD j default).amt - (bearsA a l).getD j 0) := by
  obtain ⟨hR, hX, -, hls, -, -⟩ := may_ok h
  have hpm := (tower_ok h).2
  rw [List.perm_singleton] at hpm
  have hs0 := sw0_ok l hX
  have hw : withX l (sw0 l).1 = l := with_self l
  intro j hj
  have h0 : (sw0 l).1.getD j 0 = (l.getD j default).amt := by
    simp only [sw0, List.getD_eq_getElem?_getD, List.getElem?_map, List.getElem?_eq_getElem hj, Option.map_some, Option.getD_some]
  have hbd := get_of' hj hX
  obtain ⟨x1, x2, -, -⟩ := rd_bears hX hls (RdOk.self hX) (hR a (by simp))
  have r1 : (if a.kind ≠ 1 then withX l (sw0 l).1 else l) = l := by rw [hw]; simp
  have g1 := (swe_get a.id x1 hs0.la hs0.lg j hj).1
  rw [towerT_eq, hpm, twrT, r1, twrT, g1, h0]
  have := x2 j
  omega
end Go.Proofs.Ytgpckelpmincmaa
end
section
set_option linter.unusedSimpArgs false
set_option linter.unusedVariables false
namespace Go.Proofs.Ytgpckelpmincmaa
set_option linter.unusedSimpArgs false
set_option linter.unusedVariables false
open Go.Bx
set_option maxRecDepth 10000
def cTD (t : Tr) : List D := [.int .i64 t.id, .int .i64 t.kind, .int .i64 t.sf, .int .i64 t.st, .int .i64 t.bp, .int .i64 t.att, .int .i64 t.wid, .int .i64 t.aga, .int .i64 t.per]
end Go.Proofs.Ytgpckelpmincmaa
end
section
set_option linter.unusedSimpArgs false
set_option linter.unusedVariables false
namespace Go.Proofs.Ytgpckelpmincmaa
set_option linter.unusedSimpArgs false
set_option linter.unusedVariables false
open Go.Bx
set_option maxRecDepth 10000
theorem ext_getD {a b : List Int} (h : a.length = b.length) (hj : ∀ j, j < a.length → a.getD j 0 = b.getD j 0) : a = b := by
  apply List.ext_getElem h
  intro j h1 h2
  have := hj j h1
  rw [List.getD_eq_getElem?_getD, List.getD_eq_getElem?_getD, List.getElem?_eq_getElem h1, List.getElem?_eq_getElem h2] at this
  exact this
structure StB (h w z : Int) : Prop where
  h0 : 0 ≤ h ∧ h ≤ 4294967295
  w0 : 0 ≤ w ∧ w ≤ 4294967295
  z0 : 0 ≤ z ∧ z ≤ 4294967295
theorem st_map {id h w : Int} (h1 : 1 ≤ id ∧ id ≤ 2) (h2 : 0 ≤ h ∧ h ≤ 100000000000) (h3 : 1 ≤ w ∧ w ≤ 100000000000) {l : List Ls} (hX : ∀ x, x ∈ l → lossX x = true) (hl : l.length ≤ 60) {j : Nat} (hj : j < l.length) :
    (bearsA (stT id h w) l).getD j 0 = if stK (l.getD j default) = true then (if h < (l.getD j default).amt then min w ((l.getD j default).amt - h) else 0) else 0 := by
  rw [st_bears h1 h2 h3 hX hl]
  simp only [List.getD_eq_getElem?_getD, List.getElem?_map, List.getElem?_eq_getElem hj, Option.map_some, Option.getD_some]
theorem st_all {h w z : Int} (b : StB h w z) {l : List Ls} (hl : l.length ≤ 60) (ts : List Tr) (hts : ts = [stT 1 h (1 + w), stT 2 (h + (1 + w)) (1 + z)] ∨ ts = [stT 2 (h + (1 + w)) (1 + z), stT 1 h (1 + w)]) :
    (ofT ts l).2 = (ofT [stT 1 h (1 + w + (1 + z))] l).2 := by
  have := b.h0; have := b.w0; have := b.z0
  have rA : rightT (stT 1 h (1 + w)) = true := st_right (by omega) (by omega) (by omega)
  have rB : rightT (stT 2 (h + (1 + w)) (1 + z)) = true := st_right (by omega) (by omega) (by omega)
  have rC : rightT (stT 1 h (1 + w + (1 + z))) = true := st_right (by omega) (by omega) (by omega)
  have m1 : mayT ts l = if l.any (fun x => !(lossX x)) = true then 1 else 0 := by
    rcases hts with rfl | rfl
    · exact st_may hl (by simp) (fun t ht => by
        simp only [List.mem_cons, List.not_mem_nil, or_false] at ht
        rcases ht with rfl | rfl
        · exact ⟨rA, rfl⟩
        · exact ⟨rB, rfl⟩) (by simp [stT])
    · exact st_may hl (by simp) (fun t ht => by
        simp only [List.mem_cons, List.not_mem_nil, or_false] at ht
        rcases ht with rfl | rfl
        · exact ⟨rB, rfl⟩
        · exact ⟨rA, rfl⟩) (by simp [stT])
  have m2 : mayT [stT 1 h (1 + w + (1 + z))] l = if l.any (fun x => !(lossX x)) = true then 1 else 0 := st_may hl (by simp) (fun t ht => by
      simp only [List.mem_singleton] at ht
      subst ht; exact ⟨rC, rfl⟩) (by simp)
  by_cases hb : l.any (fun x => !(lossX x)) = true
  · rw [if_pos hb] at m1 m2
    rw [ofT, ofT, m1, m2]; rfl
  · rw [if_neg hb] at m1 m2
    have hX : ∀ x, x ∈ l → lossX x = true := fun x hx => by
      have hb' : l.any (fun x => !(lossX x)) = false := by rw [Bool.not_eq_true] at hb; exact hb
      have := List.any_eq_false.1 hb' x hx
      simpa using this
    have e1 : ofT ts l = ((towerT ts l).2, (towerT ts l).1, 0) := by rw [ofT, if_neg (by simp [m1])]
    have e2 : ofT [stT 1 h (1 + w + (1 + z))] l = ((towerT [stT 1 h (1 + w + (1 + z))] l).2, (towerT [stT 1 h (1 + w + (1 + z))] l).1, 0) := by rw [ofT, if_neg (by simp [m2])]
    rw [e1, e2]
    have l1 := (tower_ok m1).1.sw.la
    have l2 := (tower_ok m2).1.sw.la
    have key : (towerT ts l).1 = (towerT [stT 1 h (1 + w + (1 + z))] l).1 := by
      refine ext_getD (by omega) fun j hj => ?_
      rw [l1] at hj
      have t2 := tower_one m2 j hj
      have a := st_map (id := 1) (h := h) (w := 1 + w) (by omega) (by omega) (by omega) hX hl hj
      have b' := st_map (id := 2) (h := h + (1 + w)) (w := 1 + z) (by omega) (by omega) (by omega) hX hl hj
      have c' := st_map (id := 1) (h := h) (w := 1 + w + (1 + z)) (by omega) (by omega) (by omega) hX hl hj
      rw [c'] at t2
      have t1 : (towerT ts l).1.getD j 0 = max 0 ((l.getD j default).amt - (bearsA (stT 1 h (1 + w)) l).getD j 0 - (bearsA (stT 2 (h + (1 + w)) (1 + z)) l).getD j 0) := by
        rcases hts with rfl | rfl
        · exact tower_two m1 rfl rfl j hj
        · rw [tower_two m1 rfl rfl j hj]; omega
      rw [t1, t2, a, b']
      by_cases hk : stK (l.getD j default) = true
      · simp only [if_pos hk]
        split <;> split <;> omega
      · simp only [if_neg hk]; omega
    simp only [key]
theorem st_vle2 (a b : Tr) : VLe (.d (.sl true 9 2 (litRow 9 (cTD a ++ cTD b)))) (.d (slT [a, b])) :=
  VLe.sl rfl (fun _ => rfl) (fun h => by cases h) fun i hi => by
    have : i = 0 ∨ i = 1 := by omega
    rcases this with rfl | rfl <;> rfl
theorem st_vle1 (a : Tr) : VLe (.d (.sl true 9 1 (litRow 9 (cTD a)))) (.d (slT [a])) :=
  VLe.sl rfl (fun _ => rfl) (fun h => by cases h) fun i hi => by
    have : i = 0 := by omega
    subst this; rfl
set_option maxHeartbeats 4000000 in
theorem lStack (u w z : Int) (l : List Ls) (tu : Bool) (b : StB u w z) (hl : l.length ≤ 9223372036854775807) : Ctr Try.prog 8 [.d (.int .u32 u), .d (.int .u32 w), .d (.int .u32 z), .d (slX l), .d (.bool tu)] [] (.d (.bool true)) [] [] := by
  have := b.h0; have := b.w0; have := b.z0
  have w1 : IntKind.i64.wrap u = u := wI (by omega)
  have w2 : IntKind.i64.wrap w = w := wI (by omega)
  have w3 : IntKind.i64.wrap z = z := wI (by omega)
  have w4 : IntKind.i64.wrap (1 + w) = 1 + w := wI (by omega)
  have w5 : IntKind.i64.wrap (1 + z) = 1 + z := wI (by omega)
  have w6 : IntKind.i64.wrap (u + (1 + w)) = u + (1 + w) := wI (by omega)
  have w7 : IntKind.i64.wrap (1 + w + (1 + z)) = 1 + w + (1 + z) := wI (by omega)
  by_cases hl6 : l.length ≤ 60
  · have e1 := st_all b hl6 _ (.inl rfl)
    have e2 := st_all b hl6 _ (.inr rfl)
    have k := of_ok [stT 1 u (1 + w + (1 + z))] l
    have c1 := sTOf [stT 1 u (1 + w), stT 2 (u + (1 + w)) (1 + z)] l (by simp) (by omega)
    have c2 := sTOf [stT 2 (u + (1 + w)) (1 + z), stT 1 u (1 + w)] l (by simp) (by omega)
    have c3 := sTOf [stT 1 u (1 + w + (1 + z))] l (by simp) (by omega)
    rw [e1] at c1
    rw [e2] at c2
    have c1 := c1.arg (args := [_, .d (slX l)]) ⟨st_vle2 _ _, VLe.refl _, trivial⟩
    have c2 := c2.arg (args := [_, .d (slX l)]) ⟨st_vle2 _ _, VLe.refl _, trivial⟩
    have c3 := c3.arg (args := [_, .d (slX l)]) ⟨st_vle1 _, VLe.refl _, trivial⟩
    have c4 := same_refl (ofT [stT 1 u (1 + w + (1 + z))] l).2.1 (by have := k.la; omega)
    clear e1 e2 k
    generalize ofT [stT 1 u (1 + w), stT 2 (u + (1 + w)) (1 + z)] l = x1 at *
    generalize ofT [stT 2 (u + (1 + w)) (1 + z), stT 1 u (1 + w)] l = x2 at *
    generalize ofT [stT 1 u (1 + w + (1 + z))] l = x3 at *
    simp only [cTD, stT, slX, slK, List.cons_append, List.nil_append] at c1 c2 c3 c4
    have hlf : decide ((l.length : Int) > 60) = false := decide_eq_false (by omega)
    refine ctr_pure Try.func8 ok8 rfl cc8 cr8 Try.ntmps8 (by simp) rfl rfl ?_; intro c hP hfn; simp only [kc8, slX, hlf, vcb, ↓evSo_some, ↓reduceIte, reduceCtorEq, seval]
    repeat' first
        | (first
            | refine TR.p hP (by first | exact lAwake | exact c1 | exact c2 | exact c3 | exact c4) (by repeat' first | exact trivial | (intro _; assumption) | apply And.intro) ?_
            | refine TR.gp hP rfl (fun _ => by first | exact lAwake | exact c1 | exact c2 | exact c3 | exact c4) (fun _ => by repeat' first | exact trivial | (intro _; assumption) | apply And.intro) ?_
            | refine TR.pv hP rfl (by first | exact lAwake | exact c1 | exact c2 | exact c3 | exact c4) trivial (by repeat' first | exact trivial | (intro _; assumption) | apply And.intro) ?_
           try simp only [w1, w2, w3, w4, w5, w6, w7, hlf, vcb, ↓evSo_some, ↓reduceIte, reduceCtorEq, seval])
        | refine And.intro (fun h => ?_) (fun h => ?_)
        | refine And.intro (by first | omega | (simp only [maxLen, decide_eq_true_eq, decide_eq_false_iff_not] at *; omega)) ?_
        | (refine TR.aslO rfl rfl rfl rfl trivial (Nat.le_of_ble_eq_true rfl) ?_
           try simp only [w1, w2, w3, w4, w5, w6, w7, hlf, vcb, ↓evSo_some, ↓reduceIte, reduceCtorEq, seval])
        | refine And.intro trivial ?_
        | refine And.intro rfl ?_
        | fail
    all_goals exact RetK.pure (by simp only [rs8, rsb, vcb, ↓evSo_some, ↓reduceIte, reduceCtorEq, seval]) (by (simp only [rs8, rsb, vcb, ↓evSo_some, ↓reduceIte, reduceCtorEq, seval, enb, vcb, ↓evSo_some, ↓reduceIte, reduceCtorEq, seval]) <;> (first | simp))
  · have hlf : decide ((l.length : Int) > 60) = true := decide_eq_true (by omega)
    refine ctr_pure Try.func8 ok8 rfl cc8 cr8 Try.ntmps8 (by simp) rfl rfl ?_; intro c hP hfn; simp only [kc8, slX, hlf, vcb, ↓evSo_some, ↓reduceIte, reduceCtorEq, seval]
    repeat' first
        | (first
            | refine TR.p hP (by first | exact lAwake) (by repeat' first | exact trivial | (intro _; assumption) | apply And.intro) ?_
            | refine TR.gp hP rfl (fun _ => by first | exact lAwake) (fun _ => by repeat' first | exact trivial | (intro _; assumption) | apply And.intro) ?_
            | refine TR.pv hP rfl (by first | exact lAwake) trivial (by repeat' first | exact trivial | (intro _; assumption) | apply And.intro) ?_
           try simp only [w1, w2, w3, w4, w5, w6, w7, hlf, vcb, ↓evSo_some, ↓reduceIte, reduceCtorEq, seval])
        | refine And.intro (fun h => ?_) (fun h => ?_)
        | refine And.intro (by first | omega | (simp only [maxLen, decide_eq_true_eq, decide_eq_false_iff_not] at *; omega)) ?_
        | (refine TR.aslO rfl rfl rfl rfl trivial (Nat.le_of_ble_eq_true rfl) ?_
           try simp only [w1, w2, w3, w4, w5, w6, w7, hlf, vcb, ↓evSo_some, ↓reduceIte, reduceCtorEq, seval])
        | refine And.intro trivial ?_
        | refine And.intro rfl ?_
        | fail
    exact RetK.pure (by simp only [rs8, rsb, vcb, ↓evSo_some, ↓reduceIte, reduceCtorEq, seval]) (by (simp only [rs8, rsb, vcb, ↓evSo_some, ↓reduceIte, reduceCtorEq, seval, enb, vcb, ↓evSo_some, ↓reduceIte, reduceCtorEq, seval]) <;> (first | rfl))
end Go.Proofs.Ytgpckelpmincmaa
end
section
set_option linter.unusedSimpArgs false
set_option linter.unusedVariables false
namespace Go.Proofs.Ytgpckelpmincmaa
set_option linter.unusedSimpArgs false
set_option linter.unusedVariables false
open Go.ChangeShapes Go.WideShapes Go.ChangeAt Go.RowKit Go.Bx
set_option maxRecDepth 100000
theorem towerStack_lifted (os : Os) (started : os.Started) (H : Type) (enc : TypeId × Value → H) :
    ReturnsInHanded {} Try.checked os 8 .any (Rows.towerStackSpec.pre6 enc Try.prog Try.f8 Rows.towerStackRow.domain false) (Rows.towerStackSpec.post enc Try.prog Try.f8 false true false false) := by
  refine returnsInHanded_of_change (C := Try.checked) Try.own started (by kernel_rfl) Try.func8
    (ChangeSpec.witness6 (enc := enc) (C := Try.checked) false ⟨#[], #[.int .u32 0, .int .u32 0, .int .u32 0, .slice none 0 0, .bool false], []⟩ 8 (by kernel_rfl) (by kernel_rfl) (by kernel_rfl) (by kernel_rfl)) ?_
  intro W base args ds gs before hval hW _ _
  refine law_calls (tb := 4) Try.laidOut (by kernel_rfl) (by kernel_rfl) Try.underlying4 rfl ?_ ?_ W base args ds gs before hval hW
  · intro ds hd
    match ds, hd with
    | [_, _, _, _, _], _ => rfl
  · intro W base args ds p hval hA
    rw [show Try.f8.params.toList = [50, 50, 50, 23, 4] by kernel_rfl] at hA
    obtain ⟨v0, v1, v2, v3, v4, d0, d1, d2, d3, d4, p0, p1, p2, p3, p4, rfl, rfl, _, h0, h1, h2, h3, h4⟩ := trodAll_five hA
    obtain ⟨u, uk, r0⟩ := u32_reads.cell (by kernel_rfl) (hval 0 50 v0 rfl rfl) h0
    obtain ⟨w, wk, r1⟩ := u32_reads.cell (by kernel_rfl) (hval 1 50 v1 rfl rfl) h1
    obtain ⟨z, zk, r2⟩ := u32_reads.cell (by kernel_rfl) (hval 2 50 v2 rfl rfl) h2
    obtain ⟨l, lk, r3⟩ := losses_reads.cell (by kernel_rfl) (hval 3 23 v3 rfl rfl) h3
    obtain ⟨tu, tuk, r4⟩ := bool_reads.cell (by kernel_rfl) (hval 4 4 v4 rfl rfl) h4
    exact ⟨[.d (.int .u32 u), .d (.int .u32 w), .d (.int .u32 z), .d (slX l), .d (.bool tu)], rfl, rel5 r0 r1 r2 r3 r4, lStack u w z l tu ⟨uk, wk, zk⟩ lk.1⟩
theorem towerStack_holds : Rows.TowerStackSaid :=
  OpenClaim.holds_of_wide 8 Try.f8 rfl rfl rfl rfl rfl rfl rfl ⟨rfl, rfl, rfl, rfl, rfl⟩ rfl rfl rfl rfl rfl (by kernel_rfl) Try.func8 (by kernel_rfl)
    (of_decide_eq_true (by kernel_rfl)) (by unfold Func.isWrapper; first | (rw [if_pos (by decide +kernel)]; kernel_rfl) | (rw [if_neg (by decide +kernel)]; exact ⟨rfl, rfl⟩))
    (fun os started H enc _ => towerStack_lifted os started H enc)
end Go.Proofs.Ytgpckelpmincmaa
end
