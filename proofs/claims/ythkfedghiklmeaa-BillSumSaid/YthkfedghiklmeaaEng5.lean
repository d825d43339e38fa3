/-
  The engine, part 5: operands and the operations that leave memory alone are as the model has them.
-/
import Derived.Test.YthkfedghiklmeaaEng4
namespace Go.Bx
open Go.RowKit

theorem cV1_ok {β : Names} {E : Nat → Prop} {w : World} {v : Value} {x : V} (h : cV1 v = some x) : RelV β E w v x ∧ isCell x = true := by
  unfold cV1 at h
  split at h <;> (try cases h) <;> refine ⟨?_, rfl⟩
  · exact .d _ _ (.int _ _)
  · exact .d _ _ (.bool _)
  · exact .d _ _ (.nil _ _ _ _)
  all_goals exact .d _ _ (.raw _ rfl)

theorem cVs_ok {β : Names} {E : Nat → Prop} {w : World} : ∀ {l : List Value} {xs : List V}, cVs l = some xs →
    l.length = xs.length ∧ ∀ (j : Nat) (v : Value) (x : V), l[j]? = some v → xs[j]? = some x → RelV β E w v x ∧ isCell x = true
  | [], xs, h => by simp [cVs] at h; subst h; simp
  | v :: l, xs, h => by
    simp only [cVs] at h
    split at h
    · rename_i x ys h1 h2
      simp at h; subst h
      obtain ⟨e, hr⟩ := cVs_ok (β := β) (E := E) (w := w) h2
      refine ⟨by simp [e], fun j u y hu hy => ?_⟩
      cases j with
      | zero => simp at hu hy; subst hu; subst hy; exact cV1_ok h1
      | succ j => simp at hu hy; exact hr j u y hu hy
    · cases h

theorem cV_ok {β : Names} {E : Nat → Prop} {w : World} {v : Value} {x : V} (h : cV v = some x) : RelV β E w v x := by
  unfold cV at h
  split at h
  · rename_i cs
    obtain ⟨xs, h1, rfl⟩ := Option.map_eq_some_iff.1 h
    obtain ⟨e, hr⟩ := cVs_ok (β := β) (E := E) (w := w) h1
    exact .ag cs xs (by simpa using e) fun j u y hu hy => (hr j u y (by simpa using hu) hy).1
  · exact (cV1_ok h).1

section
variable {c : Ctx} {β : Names} {st : St} {a : Act} {w : World}

theorem evX_ok (H : Holds c β st a w) {o : Operand} {x : X} (h : cX o = some x) : RelV β (Eo c.E0 β st.own) w (a.eval o) (evX st x) := by
  unfold cX at h
  split at h
  · cases h; exact H.env _
  · obtain ⟨y, h1, rfl⟩ := Option.map_eq_some_iff.1 h
    exact cV_ok h1
  · cases h
    exact .fn _ _ _ _ _ rfl rfl (fun j v x hv => by simp at hv) (fun j v x hv => by simp at hv)
  · cases h

theorem evV_ok (H : Holds c β st a w) {o : Operand} {x : X} (h : cX o = some x) (hs : evS true st x) : RelV β (Eo c.E0 β st.own) w (a.eval o) (evV st x) := by
  have hr := evX_ok H h
  unfold evV
  unfold evS at hs
  generalize evX st x = y at *
  generalize a.eval o = u at *
  cases y with
  | gd cc v => cases hr with | gd _ _ _ h1 _ => exact h1 (hs rfl)
  | _ => exact hr

theorem evVs_ok (H : Holds c β st a w) : ∀ {os : List Operand} {xs : List X}, cXs os = some xs → evSs true st xs →
    (os.map a.eval).length = (evVs st xs).length ∧ ∀ (j : Nat) (v : Value) (x : V), (os.map a.eval)[j]? = some v → (evVs st xs)[j]? = some x → RelV β (Eo c.E0 β st.own) w v x
  | [], xs, h, _ => by simp [cXs] at h; subst h; simp [evVs]
  | o :: os, xs, h, hs => by
    simp only [cXs] at h
    split at h
    · rename_i x ys h1 h2
      simp at h; subst h
      obtain ⟨e, hr⟩ := evVs_ok H h2 hs.2
      refine ⟨by simp [evVs] at e ⊢; exact e, fun j u y hu hy => ?_⟩
      cases j with
      | zero => simp [evVs] at hu hy; subst hu; subst hy; exact evV_ok H h1 hs.1
      | succ j => simp only [evVs, List.map_cons, List.getElem?_cons_succ] at hu hy; exact hr j u y hu hy
    · cases h

/-- One operation, carried out: its value, the world behind it, and that the state behind it holds. -/
def Runs (c : Ctx) (β : Names) (st' : St) (a : Act) (o : Oper) (w : World) : Prop :=
  ∃ v w' β', ((execOp a.eval o).run c.P w = .ok (.value v) w' ∨ ((execOp a.eval o).run c.P w = .ok .skip w' ∧ v = undef)) ∧ β.le β' ∧ Holds c β' st' (a.put o.dst v) w'

/-- An operation that only yields a value. -/
theorem Runs.val (H : Holds c β st a w) {o : Oper} {v : Value} {x : V} {rd : List Nat} {sd : Prop} (hd : ∀ d, o.dst = some d → d < c.nt) (hr : (execOp a.eval o).run c.P w = .ok (.value v) w)
    (hv : RelV β (Eo c.E0 β st.own) w v x) : Runs c β (st.app o.dst { side := sd, val := x, upd := [], rd := rd }) a o w := by
  refine ⟨v, w, β, .inl hr, Names.le.refl β, ?_⟩
  cases h : o.dst with
  | none => exact H
  | some d => exact H.setV (hd d h) hv

/-! What is known of a value, by its shape. -/
theorem rel_int {E : Nat → Prop} {v : Value} {k : IntKind} {n : Int} (h : RelV β E w v (.d (.int k n))) : v = .int k n := by
  cases h with | d _ _ h => cases h; rfl
theorem rel_bool {E : Nat → Prop} {v : Value} {b : Bool} (h : RelV β E w v (.d (.bool b))) : v = .bool b := by
  cases h with | d _ _ h => cases h; rfl
theorem mk_int {E : Nat → Prop} (k : IntKind) (n : Int) : RelV β E w (.int k n) (.d (.int k n)) := .d _ _ (.int k n)
theorem mk_bool {E : Nat → Prop} (b : Bool) : RelV β E w (.bool b) (.d (.bool b)) := .d _ _ (.bool b)

theorem nth_some {l : List V} {j : Nat} {x : V} (h : l[j]? = some x) : nth l j = x := by
  induction l generalizing j with
  | nil => simp at h
  | cons v l ih => cases j with
    | zero => simp at h; exact h
    | succ j => simp at h; exact ih h
theorem nthD_some {l : List D} {j : Nat} {x : D} (h : l[j]? = some x) : nthD l j = .d x := by
  induction l generalizing j with
  | nil => simp at h
  | cons v l ih => cases j with
    | zero => simp at h; simp [nthD, h]
    | succ j => simp at h; exact ih h
theorem dropV_eq (l : List V) (n : Nat) : dropV l n = l.drop n := by
  induction l generalizing n with
  | nil => cases n <;> simp [dropV]
  | cons v l ih => cases n <;> simp [dropV, ih]
theorem dropD_eq (l : List D) (n : Nat) : dropD l n = l.drop n := by
  induction l generalizing n with
  | nil => cases n <;> simp [dropD]
  | cons v l ih => cases n <;> simp [dropD, ih]
theorem takeV_eq (l : List V) (n : Nat) : takeV l n = l.take n := by
  induction l generalizing n with
  | nil => cases n <;> simp [takeV]
  | cons v l ih => cases n <;> simp [takeV, ih]
theorem takeDV_eq (l : List D) (n : Nat) : takeDV l n = (l.take n).map .d := by
  induction l generalizing n with
  | nil => cases n <;> simp [takeDV]
  | cons v l ih => cases n <;> simp [takeDV, ih]

theorem ev_pick (H : Holds c β st a w) {x y z : X} {ox oy oz : Operand} (hx : cX ox = some x) (hy : cX oy = some y) (hz : cX oz = some z) {bc : Bool} (hc : evV st x = .d (.bool bc))
    (h1 : evS true st x) (h2 : evS (true && bc) st y) (h3 : evS (true && !bc) st z) :
    a.eval ox = .bool bc ∧ RelV β (Eo c.E0 β st.own) w (if bc then a.eval oy else a.eval oz) (pickV bc (evV st y) (evV st z)) := by
  have hb := evV_ok H hx h1
  rw [hc] at hb
  refine ⟨rel_bool hb, ?_⟩
  cases bc with
  | true =>
    simp only [if_true]
    have hr := evV_ok H hy (by simpa using h2)
    generalize evV st y = u at *
    generalize evV st z = t at *
    unfold pickV
    split
    · exact hr
    · split
      · exact hr
      · exact .un _
    · exact .un _
  | false =>
    simp only [Bool.false_eq_true, if_false]
    have hr := evV_ok H hz (by simpa using h3)
    generalize evV st y = u at *
    generalize evV st z = t at *
    unfold pickV
    split
    · exact hr
    · split
      · rename_i e
        subst e
        exact hr
      · exact .un _
    · exact .un _
end
end Go.Bx
