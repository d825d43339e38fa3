import Derived.Test.YtkcfgdafhfllgaaF
namespace Go.Proofs.Ytkcfgdafhfllgaa
open Go.Bx
set_option maxRecDepth 10000

theorem bpR_nat (x b : Nat) : bpR (x : Int) (b : Int) = if 4000000000000000000 < heN x b then (0, 5) else (((heN x b : Nat) : Int), 0) := by
  unfold bpR ofR
  rw [if_neg (by omega), if_neg (by decide), show ((10000 : Int)).toNat = 10000 from rfl]
  simp only [Int.toNat_natCast]
  unfold heN
  generalize (if upE (x * b / 10000) (x * b % 10000) 10000 = true then 1 else 0) = u
  generalize x * b / 10000 = q
  by_cases h : 4000000000000000000 < q
  · rw [if_pos h, if_pos (by omega)]
  · rw [if_neg h]
theorem he_mono2 {x y b d : Nat} (h : x ≤ y) (hb : b ≤ d) : heN x b ≤ heN y d := by
  have h1 := he_spec x b
  have h2 := he_spec y d
  have h3 : x * b ≤ y * d := Nat.mul_le_mul h hb
  generalize x * b = a at *
  generalize y * d = c at *
  omega
theorem bpR_mono {m m' f g : Int} (h0 : 0 ≤ m) (h1 : m ≤ m') (h2 : 0 ≤ f) (h3 : f ≤ g) (e1 : (bpR m f).2 = 0) (e2 : (bpR m' g).2 = 0) : (bpR m f).1 ≤ (bpR m' g).1 := by
  have k1 : m = (m.toNat : Int) := by omega
  have k2 : m' = (m'.toNat : Int) := by omega
  have k3 : f = (f.toNat : Int) := by omega
  have k4 : g = (g.toNat : Int) := by omega
  rw [k1, k3, bpR_nat] at e1 ⊢
  rw [k2, k4, bpR_nat] at e2 ⊢
  have := he_mono2 (x := m.toNat) (y := m'.toNat) (b := f.toNat) (d := g.toNat) (by omega) (by omega)
  by_cases g1 : 4000000000000000000 < heN m.toNat f.toNat
  · rw [if_pos g1] at e1; simp at e1
  · by_cases g2 : 4000000000000000000 < heN m'.toNat g.toNat
    · rw [if_pos g2] at e2; simp at e2
    · rw [if_neg g1, if_neg g2]; simp only; omega
/-- Numbers, one by one no greater. -/
def LeL : List Int → List Int → Prop
  | [], [] => True
  | a :: l, b :: r => 0 ≤ a ∧ a ≤ b ∧ LeL l r
  | _, _ => False
theorem goQ_mono : ∀ {F G : List Int} {m m' : Int}, LeL F G → 0 ≤ m → m ≤ m' → (goQ m F).2 = 0 → (goQ m' G).2 = 0 → (goQ m F).1 ≤ (goQ m' G).1
  | [], [], m, m', _, _, h, _, _ => h
  | a :: F, b :: G, m, m', hl, h0, h, e1, e2 => by
    rw [goQ] at e1 e2 ⊢
    rw [goQ]
    by_cases g1 : (bpR m a).2 = 0
    · by_cases g2 : (bpR m' b).2 = 0
      · rw [if_pos g1] at e1 ⊢
        rw [if_pos g2] at e2 ⊢
        exact goQ_mono hl.2.2 (bpR_fst m a).1 (bpR_mono h0 h hl.1 hl.2.1 g1 g2) e1 e2
      · rw [if_neg g2] at e2; exact absurd e2 g2
    · rw [if_neg g1] at e1; exact absurd e1 g1
  | [], _ :: _, _, _, h, _, _, _, _ => h.elim
  | _ :: _, [], _, _, h, _, _, _, _ => h.elim
theorem bpR_zero {m : Int} (h : 0 ≤ m) : bpR m 0 = (0, 0) := by
  have k1 : m = (m.toNat : Int) := by omega
  have h0 : heN m.toNat 0 = 0 := by have := he_spec m.toNat 0; omega
  have := bpR_nat m.toNat 0
  rw [h0] at this
  rw [k1]; exact this
theorem bpR_zero' {f : Int} (h : 0 ≤ f) : bpR 0 f = (0, 0) := by
  have k1 : f = (f.toNat : Int) := by omega
  have h0 : heN 0 f.toNat = 0 := by have := he_spec 0 f.toNat; omega
  have := bpR_nat 0 f.toNat
  rw [h0] at this
  rw [k1]; exact this
theorem oneR_ok {v : Vs} {r : Rk} {c : Cv} (h : (oneR v r c).2 = 0) : mayQ v r c = true ∧ r.zo < v.zn.length ∧ (goQ r.va (facsR v r c)).2 = 0 ∧ (oneR v r c).1 = max (goQ r.va (facsR v r c)).1 v.mn := by
  unfold oneR at h ⊢
  by_cases g1 : mayQ v r c = false
  · rw [if_pos g1] at h; simp at h
  rw [if_neg g1] at h ⊢
  by_cases g2 : (v.zn.length : Int) ≤ r.zo
  · rw [if_pos g2] at h; simp at h
  rw [if_neg g2] at h ⊢
  by_cases g3 : (goQ r.va (facsR v r c)).2 = 0
  · rw [if_pos g3]; exact ⟨by simpa using g1, by omega, g3, rfl⟩
  · rw [if_neg g3] at h; exact absurd h g3
theorem one_min {v : Vs} {r : Rk} {c : Cv} (h : (oneR v r c).2 = 0) : v.mn ≤ (oneR v r c).1 ∧ 0 ≤ v.mn ∧ v.mn ≤ 1000000000000000 := by
  have h1 := oneR_ok h
  have h2 := (facs_ok h1.1).mn
  rw [h1.2.2.2]; omega
theorem year_ok {v : Vs} {r : Rk} {l : List Cv} : (yearR v r l).2 = 0 ↔ (∀ c, c ∈ l → (oneR v r c).2 = 0) ∧ (msQ v r l).sum ≤ 4000000000000000000 := by
  unfold yearR
  by_cases h : errQ v r l = 0
  · rw [if_neg (by simpa using h)]
    have := (errQ_at v r).1 h
    by_cases h2 : 4000000000000000000 < (msQ v r l).sum
    · rw [if_pos h2]; constructor
      · intro h3; simp at h3
      · intro h3; omega
    · rw [if_neg h2]; exact ⟨fun _ => ⟨this, by omega⟩, fun _ => rfl⟩
  · rw [if_pos h]
    exact ⟨fun h2 => absurd h2 h, fun h2 => absurd ((errQ_at v r).2 h2.1) h⟩
theorem year_fst {v : Vs} {r : Rk} {l : List Cv} (h : (yearR v r l).2 = 0) : (yearR v r l).1 = (msQ v r l).sum := by
  have h1 := year_ok.1 h
  unfold yearR
  rw [if_neg (by simpa using (errQ_at v r).2 h1.1), if_neg (by omega)]
theorem year_err {v : Vs} {r : Rk} {l : List Cv} (h : ¬ (yearR v r l).2 = 0) : (yearR v r l).1 = 0 := by
  unfold yearR at h ⊢
  by_cases h1 : errQ v r l = 0
  · rw [if_neg (by simpa using h1)] at h ⊢
    by_cases h2 : 4000000000000000000 < (msQ v r l).sum
    · rw [if_pos h2]
    · rw [if_neg h2] at h; exact absurd rfl h
  · rw [if_pos h1]
theorem min_sum {v : Vs} {r : Rk} {l : List Cv} (h : ∀ c, c ∈ l → (oneR v r c).2 = 0) : v.mn * (l.length : Int) ≤ (msQ v r l).sum := by
  induction l with
  | nil => simp [msQ]
  | cons c l ih =>
    have h1 := (one_min (h c (by simp))).1
    have h2 := ih (fun c hc => h c (by simp [hc]))
    simp only [msQ, List.map_cons, List.sum_cons, List.length_cons] at h2 ⊢
    have e : v.mn * ((l.length + 1 : Nat) : Int) = v.mn * (l.length : Int) + v.mn := by
      rw [Int.natCast_add, Int.mul_add]; simp
    rw [e]; omega
theorem year_perm {v : Vs} {r : Rk} {l : List Cv} : yearR v r l.reverse = yearR v r l ∨ (¬ (yearR v r l).2 = 0 ∧ ¬ (yearR v r l.reverse).2 = 0) := by
  by_cases h : (yearR v r l).2 = 0
  · have h1 := year_ok.1 h
    have h2 : (msQ v r l.reverse).sum = (msQ v r l).sum := by
      unfold msQ; rw [List.map_reverse, List.sum_reverse]
    have h3 : (yearR v r l.reverse).2 = 0 := year_ok.2 ⟨fun c hc => h1.1 c (by simpa using hc), by omega⟩
    left
    have e1 := year_fst h
    have e2 := year_fst h3
    apply Prod.ext
    · rw [e1, e2, h2]
    · rw [h, h3]
  · right
    refine ⟨h, fun h3 => h ?_⟩
    have h1 := year_ok.1 h3
    have h2 : (msQ v r l.reverse).sum = (msQ v r l).sum := by
      unfold msQ; rw [List.map_reverse, List.sum_reverse]
    exact year_ok.2 ⟨fun c hc => h1.1 c (by simpa using hc), by omega⟩
theorem year_cut {v : Vs} {r : Rk} {l : List Cv} (n : Nat) (h : (yearR v r l).2 = 0) : (yearR v r (l.take n)).2 = 0 ∧ (yearR v r (l.drop n)).2 = 0 ∧ (yearR v r l).1 = (yearR v r (l.take n)).1 + (yearR v r (l.drop n)).1 ∧ 0 ≤ (yearR v r (l.take n)).1 ∧ 0 ≤ (yearR v r (l.drop n)).1 ∧ (yearR v r l).1 ≤ 4000000000000000000 := by
  have h1 := year_ok.1 h
  have hs : (msQ v r l).sum = (msQ v r (l.take n)).sum + (msQ v r (l.drop n)).sum := by
    rw [← List.sum_append]; congr 1
    unfold msQ; rw [← List.map_append, List.take_append_drop]
  have p1 := sum_nonneg (fun x hx => (msQ_pos v r (l.take n) x hx).1)
  have p2 := sum_nonneg (fun x hx => (msQ_pos v r (l.drop n) x hx).1)
  have k1 : (yearR v r (l.take n)).2 = 0 := year_ok.2 ⟨fun c hc => h1.1 c (List.mem_of_mem_take hc), by omega⟩
  have k2 : (yearR v r (l.drop n)).2 = 0 := year_ok.2 ⟨fun c hc => h1.1 c (List.mem_of_mem_drop hc), by omega⟩
  rw [year_fst h, year_fst k1, year_fst k2]
  exact ⟨k1, k2, by omega, p1, p2, by omega⟩
theorem facs_leL {v : Vs} {r : Rk} {c : Cv} (h : mayQ v r c = true) : LeL (facsR v r c) (facsR v r c) := by
  have h1 := (facs_ok h).all
  simp only [facsR, List.mem_cons, List.not_mem_nil, or_false, forall_eq_or_imp, forall_eq] at h1
  simp only [facsR, LeL, and_true]
  omega
theorem one_more_value {v : Vs} {r s : Rk} {c : Cv} (e1 : s.kd = r.kd) (e2 : s.ag = r.ag) (e3 : s.zo = r.zo) (h : r.va ≤ s.va) (g1 : (oneR v r c).2 = 0) (g2 : (oneR v s c).2 = 0) : (oneR v r c).1 ≤ (oneR v s c).1 := by
  obtain ⟨a1, a2, a3, a4⟩ := oneR_ok g1
  obtain ⟨b1, b2, b3, b4⟩ := oneR_ok g2
  have hf : facsR v s c = facsR v r c := by unfold facsR; rw [e1, e2, e3]
  have hv := (facs_ok a1).va
  rw [hf] at b3 b4
  have := goQ_mono (facs_leL a1) (by omega) h a3 b3
  rw [a4, b4]; omega
theorem one_more_share {v : Vs} {r : Rk} {c d : Cv} (e1 : d.pe = c.pe) (h : c.sh ≤ d.sh) (g1 : (oneR v r c).2 = 0) (g2 : (oneR v r d).2 = 0) : (oneR v r c).1 ≤ (oneR v r d).1 := by
  obtain ⟨a1, a2, a3, a4⟩ := oneR_ok g1
  obtain ⟨b1, b2, b3, b4⟩ := oneR_ok g2
  have hv := (facs_ok a1).va
  have hl := facs_leL a1
  have hl2 : LeL (facsR v r c) (facsR v r d) := by
    simp only [facsR, LeL, e1, and_true] at hl ⊢
    omega
  have := goQ_mono hl2 (by omega) (Int.le_refl _) a3 b3
  rw [a4, b4]; omega
def withZ (v : Vs) (k : Nat) (x : Int) : Vs := { v with zn := v.zn.set k x }
def withP (v : Vs) (k : Nat) (x : Int) : Vs := { v with pr := v.pr.set k x }
theorem all_set {l : List Int} {k : Nat} {x : Int} (h : l.all facB = true) (hx : facB x = true) : (l.set k x).all facB = true := by
  rw [List.all_eq_true] at h ⊢
  intro y hy
  rcases List.mem_or_eq_of_mem_set hy with h1 | h1
  · exact h y h1
  · rw [h1]; exact hx
theorem may_withZ {v : Vs} {r : Rk} {c : Cv} {k : Nat} {x : Int} (h : mayQ v r c = true) (hx : facB x = true) : mayQ (withZ v k x) r c = true := by
  simp only [mayQ, rightV, headV, withZ, Bool.and_eq_true, List.length_set] at h ⊢
  exact ⟨⟨⟨h.1.1.1, ⟨⟨h.1.1.2.1.1.1, all_set h.1.1.2.1.1.2 hx⟩, h.1.1.2.1.2⟩, h.1.1.2.2⟩, h.1.2⟩, h.2⟩
theorem may_withP {v : Vs} {r : Rk} {c : Cv} {k : Nat} {x : Int} (h : mayQ v r c = true) (hx : facB x = true) : mayQ (withP v k x) r c = true ∧ rightV (withP v k x) = true := by
  simp only [mayQ, rightV, headV, withP, Bool.and_eq_true, List.length_set] at h ⊢
  exact ⟨⟨⟨⟨h.1.1.1, ⟨⟨h.1.1.2.1.1.1, h.1.1.2.1.1.2⟩, all_set h.1.1.2.1.2 hx⟩, h.1.1.2.2⟩, h.1.2⟩, h.2⟩, ⟨h.1.1.1, ⟨⟨h.1.1.2.1.1.1, h.1.1.2.1.1.2⟩, all_set h.1.1.2.1.2 hx⟩, h.1.1.2.2⟩⟩
theorem one_zone {v : Vs} {r : Rk} {c : Cv} (g1 : (oneR v r c).2 = 0) : (oneR (withZ v r.zo.toNat (min (v.zn.getD r.zo.toNat 0 + 7) 100000)) r c).2 = 0 → (oneR v r c).1 ≤ (oneR (withZ v r.zo.toNat (min (v.zn.getD r.zo.toNat 0 + 7) 100000)) r c).1 := by
  intro g2
  obtain ⟨a1, a2, a3, a4⟩ := oneR_ok g1
  obtain ⟨b1, b2, b3, b4⟩ := oneR_ok g2
  have hf := facs_ok a1
  have hv := hf.va
  have hz := hf.zo
  have hl := facs_leL a1
  have hb := hf.all (v.zn.getD r.zo.toNat 0) (by simp [facsR])
  have hs : (v.zn.set r.zo.toNat (min (v.zn.getD r.zo.toNat 0 + 7) 100000)).getD r.zo.toNat 0 = min (v.zn.getD r.zo.toNat 0 + 7) 100000 := by
    rw [List.getD_eq_getElem?_getD, List.getElem?_set_self (by omega)]; rfl
  have hl2 : LeL (facsR v r c) (facsR (withZ v r.zo.toNat (min (v.zn.getD r.zo.toNat 0 + 7) 100000)) r c) := by
    simp only [facsR, LeL, withZ, baseR, hs, and_true] at hl ⊢
    omega
  have := goQ_mono hl2 (by omega) (Int.le_refl _) a3 b3
  rw [a4, b4]; simp only [withZ] at this ⊢; omega
theorem one_free {v : Vs} {r : Rk} {c : Cv} (g1 : (oneR v r c).2 = 0) : oneR (withP v c.pe.toNat 0) r c = (v.mn, 0) ∧ rightV (withP v c.pe.toNat 0) = true := by
  obtain ⟨a1, a2, a3, a4⟩ := oneR_ok g1
  have hf := facs_ok a1
  have hb := may_withP (k := c.pe.toNat) (x := 0) a1 (by decide)
  refine ⟨?_, hb.2⟩
  have hs : (v.pr.set c.pe.toNat 0).getD c.pe.toNat 0 = 0 := by
    have := hf.pe; have := hf.pr
    rw [List.getD_eq_getElem?_getD, List.getElem?_set_self (by omega)]; rfl
  have hg : goQ r.va (facsR (withP v c.pe.toNat 0) r c) = (0, 0) := by
    have hsh := hf.all c.sh (by simp [facsR])
    simp only [facsR, withP, baseR, hs] at a3 ⊢
    simp only [goQ] at a3 ⊢
    by_cases k1 : (bpR r.va (if r.kd = 0 then v.b0 else if r.kd = 1 then v.b1 else if r.kd = 2 then v.b2 else v.b3)).2 = 0
    · rw [if_pos k1] at a3 ⊢
      generalize (bpR r.va (if r.kd = 0 then v.b0 else if r.kd = 1 then v.b1 else if r.kd = 2 then v.b2 else v.b3)).1 = m1 at *
      by_cases k2 : (bpR m1 (bandR v.age r.ag)).2 = 0
      · rw [if_pos k2] at a3 ⊢
        generalize (bpR m1 (bandR v.age r.ag)).1 = m2 at *
        by_cases k3 : (bpR m2 (v.zn.getD r.zo.toNat 0)).2 = 0
        · rw [if_pos k3] at a3 ⊢
          rw [bpR_zero (bpR_fst m2 _).1, if_pos rfl, bpR_zero' hsh.1, if_pos rfl]
        · rw [if_neg k3] at a3; exact absurd a3 k3
      · rw [if_neg k2] at a3; exact absurd a3 k2
    · rw [if_neg k1] at a3; exact absurd a3 k1
  rw [oneR_go hb.1 (by simp only [withP]; omega), hg, if_pos rfl]
  have := hf.mn
  simp only [withP]
  rw [Int.max_eq_right (by omega)]
end Go.Proofs.Ytkcfgdafhfllgaa
