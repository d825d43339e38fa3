import Derived.Test.YthkfedghiklmeaaEngL
namespace Go.Bx
open Go.RowKit Go.ChangeShapes Go.WideShapes Go.ChangeAt
theorem trodAll_six {H : Type} {enc : TypeId × Value → H} {P : Program} {base : Nat} {spare : Nat → Bool} {held : Bool} {w : World} {t0 t1 t2 t3 t4 t5 : TypeId} {args : Array Value} {ds : List (DataW H)} {ps : List MemPlace} (h : DataW.TrodAll enc P w base spare held [t0, t1, t2, t3, t4, t5] args.toList ds ps) :
    ∃ v0 v1 v2 v3 v4 v5 d0 d1 d2 d3 d4 d5 p0 p1 p2 p3 p4 p5, args = #[v0, v1, v2, v3, v4, v5] ∧ ds = [d0, d1, d2, d3, d4, d5] ∧ ps = p0 ++ (p1 ++ (p2 ++ (p3 ++ (p4 ++ p5)))) ∧
      DataW.Trod enc P w base spare held t0 v0 d0 p0 ∧ DataW.Trod enc P w base spare held t1 v1 d1 p1 ∧ DataW.Trod enc P w base spare held t2 v2 d2 p2 ∧ DataW.Trod enc P w base spare held t3 v3 d3 p3 ∧ DataW.Trod enc P w base spare held t4 v4 d4 p4 ∧ DataW.Trod enc P w base spare held t5 v5 d5 p5 := by
  have ⟨v0, r0, d0, e0, p0, q0, a0, b0, c0, h0, k0⟩ := trodAll_cons h
  have ⟨v1, r1, d1, e1, p1, q1, a1, b1, c1, h1, k1⟩ := trodAll_cons k0
  have ⟨v2, r2, d2, e2, p2, q2, a2, b2, c2, h2, k2⟩ := trodAll_cons k1
  have ⟨v3, r3, d3, e3, p3, q3, a3, b3, c3, h3, k3⟩ := trodAll_cons k2
  have ⟨v4, r4, d4, e4, p4, q4, a4, b4, c4, h4, k4⟩ := trodAll_cons k3
  have ⟨v5, r5, d5, e5, p5, q5, a5, b5, c5, h5, k5⟩ := trodAll_cons k4
  have ⟨x0, x1, x2⟩ := trodAll_nil k5
  subst x0 x1 x2 b5 c5 a5 b4 c4 a4 b3 c3 a3 b2 c2 a2 b1 c1 a1 b0 c0
  refine ⟨v0, v1, v2, v3, v4, v5, d0, d1, d2, d3, d4, d5, p0, p1, p2, p3, p4, p5, ?_, rfl, by simp, h0, h1, h2, h3, h4, h5⟩
  cases args
  simp at a0
  simp [a0]
theorem rel6 {W : World} {v0 v1 v2 v3 v4 v5 : Value} {x0 x1 x2 x3 x4 x5 : V} (h0 : RelV noN noE W v0 x0) (h1 : RelV noN noE W v1 x1) (h2 : RelV noN noE W v2 x2) (h3 : RelV noN noE W v3 x3) (h4 : RelV noN noE W v4 x4) (h5 : RelV noN noE W v5 x5) : ∀ (j : Nat) (v : Value) (x : V), (#[v0, v1, v2, v3, v4, v5] : Array Value)[j]? = some v → [x0, x1, x2, x3, x4, x5][j]? = some x → RelV noN noE W v x := by
  intro j v x hv hx
  match j, hv, hx with
  | 0, hv, hx => simp at hv hx; subst hv; subst hx; exact h0
  | 1, hv, hx => simp at hv hx; subst hv; subst hx; exact h1
  | 2, hv, hx => simp at hv hx; subst hv; subst hx; exact h2
  | 3, hv, hx => simp at hv hx; subst hv; subst hx; exact h3
  | 4, hv, hx => simp at hv hx; subst hv; subst hx; exact h4
  | 5, hv, hx => simp at hv hx; subst hv; subst hx; exact h5
  | k + 6, hv, hx => simp at hv
theorem trodAll_seven {H : Type} {enc : TypeId × Value → H} {P : Program} {base : Nat} {spare : Nat → Bool} {held : Bool} {w : World} {t0 t1 t2 t3 t4 t5 t6 : TypeId} {args : Array Value} {ds : List (DataW H)} {ps : List MemPlace} (h : DataW.TrodAll enc P w base spare held [t0, t1, t2, t3, t4, t5, t6] args.toList ds ps) :
    ∃ v0 v1 v2 v3 v4 v5 v6 d0 d1 d2 d3 d4 d5 d6 p0 p1 p2 p3 p4 p5 p6, args = #[v0, v1, v2, v3, v4, v5, v6] ∧ ds = [d0, d1, d2, d3, d4, d5, d6] ∧ ps = p0 ++ (p1 ++ (p2 ++ (p3 ++ (p4 ++ (p5 ++ p6))))) ∧
      DataW.Trod enc P w base spare held t0 v0 d0 p0 ∧ DataW.Trod enc P w base spare held t1 v1 d1 p1 ∧ DataW.Trod enc P w base spare held t2 v2 d2 p2 ∧ DataW.Trod enc P w base spare held t3 v3 d3 p3 ∧ DataW.Trod enc P w base spare held t4 v4 d4 p4 ∧ DataW.Trod enc P w base spare held t5 v5 d5 p5 ∧ DataW.Trod enc P w base spare held t6 v6 d6 p6 := by
  have ⟨v0, r0, d0, e0, p0, q0, a0, b0, c0, h0, k0⟩ := trodAll_cons h
  have ⟨v1, r1, d1, e1, p1, q1, a1, b1, c1, h1, k1⟩ := trodAll_cons k0
  have ⟨v2, r2, d2, e2, p2, q2, a2, b2, c2, h2, k2⟩ := trodAll_cons k1
  have ⟨v3, r3, d3, e3, p3, q3, a3, b3, c3, h3, k3⟩ := trodAll_cons k2
  have ⟨v4, r4, d4, e4, p4, q4, a4, b4, c4, h4, k4⟩ := trodAll_cons k3
  have ⟨v5, r5, d5, e5, p5, q5, a5, b5, c5, h5, k5⟩ := trodAll_cons k4
  have ⟨v6, r6, d6, e6, p6, q6, a6, b6, c6, h6, k6⟩ := trodAll_cons k5
  have ⟨x0, x1, x2⟩ := trodAll_nil k6
  subst x0 x1 x2 b6 c6 a6 b5 c5 a5 b4 c4 a4 b3 c3 a3 b2 c2 a2 b1 c1 a1 b0 c0
  refine ⟨v0, v1, v2, v3, v4, v5, v6, d0, d1, d2, d3, d4, d5, d6, p0, p1, p2, p3, p4, p5, p6, ?_, rfl, by simp, h0, h1, h2, h3, h4, h5, h6⟩
  cases args
  simp at a0
  simp [a0]
theorem rel7 {W : World} {v0 v1 v2 v3 v4 v5 v6 : Value} {x0 x1 x2 x3 x4 x5 x6 : V} (h0 : RelV noN noE W v0 x0) (h1 : RelV noN noE W v1 x1) (h2 : RelV noN noE W v2 x2) (h3 : RelV noN noE W v3 x3) (h4 : RelV noN noE W v4 x4) (h5 : RelV noN noE W v5 x5) (h6 : RelV noN noE W v6 x6) : ∀ (j : Nat) (v : Value) (x : V), (#[v0, v1, v2, v3, v4, v5, v6] : Array Value)[j]? = some v → [x0, x1, x2, x3, x4, x5, x6][j]? = some x → RelV noN noE W v x := by
  intro j v x hv hx
  match j, hv, hx with
  | 0, hv, hx => simp at hv hx; subst hv; subst hx; exact h0
  | 1, hv, hx => simp at hv hx; subst hv; subst hx; exact h1
  | 2, hv, hx => simp at hv hx; subst hv; subst hx; exact h2
  | 3, hv, hx => simp at hv hx; subst hv; subst hx; exact h3
  | 4, hv, hx => simp at hv hx; subst hv; subst hx; exact h4
  | 5, hv, hx => simp at hv hx; subst hv; subst hx; exact h5
  | 6, hv, hx => simp at hv hx; subst hv; subst hx; exact h6
  | k + 7, hv, hx => simp at hv
end Go.Bx
