/-
  The engine, part 15: every operation's step is valid; guards; contracts of calls.
-/
import Derived.Test.YthkfedghiklmeaaEng14
namespace Go.Bx
open Go.RowKit

theorem makes_upd {st : St} {p : Bool} {d : Nat} {q : O} (hs : (opR st p d q).side) (hm : makes q = true) : d ∉ st.nm := by
  cases q <;> simp only [makes] at hm <;> (try cases hm) <;> simp only [opR] at hs <;> (repeat' split at hs) <;> simp_all [Ef.bad]

/-- A step of an operation that no guard holds back. -/
def Ef.stp (e : Ef) (new : List Nat) : Stp := { val := e.val, upd := e.upd, rd := e.rd, new := new }
/-- The name that an operation makes. -/
def newOf (q : O) (d : Nat) : List Nat := if makes q then [d] else []

section
variable {c : Ctx}

theorem gslots_op {d : Option Nat} {g : Option (Nat × Bool)} {q : O} : ∀ k, k ∈ q.slots → k ∈ (I.slots ⟨d, g, q⟩) := fun k hk => by simp [I.slots, hk]

theorem valid_op {d : Option Nat} {q : O} {st : St} (hq : isCall q = false) (hs : (opR st true (d.getD 0) q).side) : Valid c ⟨d, none, q⟩ st ((opR st true (d.getD 0) q).stp (newOf q (d.getD 0))) := by
  intro st1 h1 h2 h3 ops o hc β a w H Q K hK
  have hcg := hc.gd
  have hg : o.guard = none := by
    cases hg : o.guard with
    | none => rfl
    | some jw => simp only [hg] at hcg; obtain ⟨s, _, h⟩ := hcg; cases h
  rw [if_pos (by simp [Region.wanted, hg])]
  have hn : makes q = true → d.getD 0 ∉ st1.nm := fun hm => h3 _ (by simp [Ef.stp, newOf, hm])
  obtain ⟨g1, g2, g3, g4⟩ := opR_congr hq hs (fun k hk => h1 k (gslots_op k hk)) h2 hn
  have hdst := hc.dst
  obtain ⟨v, w', β', hr, _, H'⟩ := op_ok hc.op H (fun d hd => hc.lt d (hdst ▸ hd)) (fun hm => hdst ▸ hc.mkk hm) (fun hm => hdst ▸ hc.st hm) hq (by rw [hdst]; exact g1)
  refine Oper.wp_ok hr (hK β' _ w' ?_)
  simp only at hdst
  rw [hdst] at H' ⊢
  simpa [St.app, St.stp, Ef.stp, g2, g3] using H'

/-- Whether a guard lets an operation through, as far as it is known. -/
def gOf (env : List (Nat × V)) (s : Nat) (want : Bool) : Option Bool :=
  match get env s with
  | .d (.bool b) => some (if want then b else !b)
  | .gd g (.d (.bool b)) => some (g && (if want then b else !b))
  | _ => none

theorem wanted_ok {β : Names} {st : St} {a : Act} {w : World} (H : Holds c β st a w) {ops : Array Oper} {o : Oper} {j s : Nat} {want gc : Bool} (hg : o.guard = some (j, want)) (hj : (ops[j]?).bind (·.dst) = some s) (h : gOf st.env s want = some gc) :
    Region.wanted o (yielded ops a.tmps) = gc := by
  have hr := H.env s
  have hy : ∀ b, a.tmps.getD s undef = .bool b → yielded ops a.tmps j = some b := fun b hb => by
    unfold yielded
    rw [hj]
    have : a.tmps[s]? = some (.bool b) := by
      simp only [Array.getD_eq_getD_getElem?] at hb
      cases h2 : a.tmps[s]? with
      | none => simp [h2, undef] at hb
      | some v => simp [h2] at hb; rw [hb]
    simp [this]
  have hn : a.tmps.getD s undef = undef → yielded ops a.tmps j = none := fun hb => by
    unfold yielded
    rw [hj]
    simp only [Array.getD_eq_getD_getElem?] at hb
    cases h2 : a.tmps[s]? with
    | none => simp [h2]
    | some v => simp [h2, undef] at hb; subst hb; simp [h2]
  unfold gOf at h
  unfold Region.wanted
  rw [hg]
  simp only
  generalize a.tmps.getD s undef = u at *
  split at h
  · rename_i b hb
    rw [hb] at hr
    rw [hy b (rel_bool hr)]
    simp at h
    subst h
    cases want <;> cases b <;> rfl
  · rename_i g b hb
    rw [hb] at hr
    simp at h
    subst h
    cases hr with
    | gd _ _ _ q1 q2 =>
      cases g with
      | true =>
        rw [hy b (rel_bool (q1 rfl))]
        cases want <;> cases b <;> rfl
      | false =>
        rw [hn (q2 rfl)]
        rfl
  · cases h

/-- A step of an operation that a guard holds back, or not: nothing but a value. -/
theorem valid_gd {d : Option Nat} {s : Nat} {want gc : Bool} {q : O} {st : St} (hq : isCall q = false) (hg : gOf st.env s want = some gc) (hs : gc = true → (opR st gc (d.getD 0) q).side) (hu : (opR st true (d.getD 0) q).upd = []) :
    Valid c ⟨d, some (s, want), q⟩ st { val := .gd gc (opR st true (d.getD 0) q).val, upd := [], rd := (opR st true (d.getD 0) q).rd, new := newOf q (d.getD 0) } := by
  intro st1 h1 h2 h3 ops o hc β a w H Q K hK
  have hcg := hc.gd
  obtain ⟨j, hgo, hj⟩ : ∃ j, o.guard = some (j, want) ∧ (ops[j]?).bind (·.dst) = some s := by
    cases hgo : o.guard with
    | none => simp only [hgo] at hcg; cases hcg
    | some jw =>
      obtain ⟨j, w'⟩ := jw
      simp only [hgo] at hcg
      obtain ⟨s', hs', e⟩ := hcg
      injection e with e; injection e with e1 e2
      exact ⟨j, by rw [e2], by rw [hs', e1]⟩
  have hg1 : gOf st1.env s want = some gc := by
    unfold gOf at hg ⊢
    rw [h1 s (by simp [I.slots])]
    exact hg
  have hw := wanted_ok H hgo hj hg1
  rw [hw]
  have hdst := hc.dst
  simp only at hdst
  cases gc with
  | true =>
    rw [if_pos rfl]
    obtain ⟨g1, g2, g3, g4⟩ := opR_congr (st1 := st1) hq (hs rfl) (fun k hk => h1 k (gslots_op k hk)) h2 (fun hm => h3 _ (by simp [newOf, hm]))
    obtain ⟨v, w', β', hr, _, H'⟩ := op_ok hc.op H (fun d hd => hc.lt d (hdst ▸ hd)) (fun hm => hdst ▸ hc.mkk hm) (fun hm => hdst ▸ hc.st hm) hq (by rw [hdst]; exact g1)
    refine Oper.wp_ok hr (hK β' _ w' ?_)
    rw [hdst] at H' ⊢
    simp only [St.app, g2, g3, hu, applyU, newN] at H'
    simp only [St.stp, applyU, newN]
    cases d with
    | none => exact H'
    | some d' =>
      simp only [setE] at H' ⊢
      refine ⟨H'.sz, H'.df, fun s' => ?_, H'.own, H'.fr, H'.kn, H'.nm, H'.kp, H'.fx⟩
      have h5 := H'.env s'
      simp only [get] at h5 ⊢
      split
      · rename_i e
        rw [if_pos e] at h5
        exact .gd _ _ _ (fun _ => h5) (fun h => by cases h)
      · rename_i e
        rw [if_neg e] at h5
        exact h5
  | false =>
    rw [if_neg (by simp)]
    refine hK β _ w ?_
    rw [hdst]
    simp only [St.stp, applyU, newN]
    cases d with
    | none => exact H
    | some d' => exact H.setV (hc.lt d' rfl) (.gd _ _ _ (fun h => by cases h) (fun _ => rfl))

end
end Go.Bx
