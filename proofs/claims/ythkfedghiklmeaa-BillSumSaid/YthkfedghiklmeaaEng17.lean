/-
  The engine, part 17: the condition of a region, by reckoning; the rules for calls.
-/
import Derived.Test.YthkfedghiklmeaaEng16
namespace Go.Bx
open Go.RowKit

/-- Does a step set or strike own blocks? -/
def hasU : List (Nat × Option Own) → Bool
  | [] => false
  | _ :: _ => true
theorem hasU_nil {u : List (Nat × Option Own)} (h : hasU u = false) : u = [] := by
  cases u with
  | nil => rfl
  | cons => cases h

/-- The condition of a region: every operation's own; at a call what it comes to is left open. -/
def vcR (c : Ctx) (b : Bool) : List I → St → List Lg → (List Lg → St → Prop) → Prop
  | [], st, acc, K => K acc st
  | ⟨d, g, q⟩ :: is, st, acc, K =>
    if isCall q = true then TR c b (⟨d, g, q⟩ :: is) st acc K
    else match g with
      | none => (opR st true (d.getD 0) q).side ∧ vcR c b is (st.stp d ((opR st true (d.getD 0) q).stp (newOf q (d.getD 0)))) (lgs b acc (((opR st true (d.getD 0) q).stp (newOf q (d.getD 0))).lg)) K
      | some (s, want) =>
        match gOf st.env s want with
        | none => False
        | some gc =>
          if hasU (opR st true (d.getD 0) q).upd = true then
            (gc = true → (opR st true (d.getD 0) q).side ∧ vcR c b is (st.stp d ((opR st true (d.getD 0) q).stp (newOf q (d.getD 0)))) (lgs b acc (((opR st true (d.getD 0) q).stp (newOf q (d.getD 0))).lg)) K) ∧
            (gc = false → vcR c b is (st.stp d { val := .un, upd := [], rd := [], new := [] }) (lgs b acc ⟨[], []⟩) K)
          else
            (gc = true → (opR st gc (d.getD 0) q).side) ∧ (makes q = true → d.getD 0 ∉ st.nm) ∧ vcR c b is (st.stp d { val := .gd gc (opR st true (d.getD 0) q).val, upd := [], rd := (opR st true (d.getD 0) q).rd, new := newOf q (d.getD 0) }) (lgs b acc ⟨(opR st true (d.getD 0) q).rd, newOf q (d.getD 0)⟩) K

section
variable {c : Ctx} {b : Bool} {is : List I} {st : St} {acc : List Lg} {K : List Lg → St → Prop}

theorem vcR_nil : vcR c b [] st acc K = K acc st := propext ⟨fun h => h, fun h => h⟩
theorem vcR_call {d : Option Nat} {g : Option (Nat × Bool)} {q : O} (h : isCall q = true) : vcR c b (⟨d, g, q⟩ :: is) st acc K = TR c b (⟨d, g, q⟩ :: is) st acc K := by
  simp only [vcR, h, if_true]
theorem vcR_op {d : Option Nat} {q : O} (h : isCall q = false) : vcR c b (⟨d, none, q⟩ :: is) st acc K =
    ((opR st true (d.getD 0) q).side ∧ vcR c b is (st.stp d ((opR st true (d.getD 0) q).stp (newOf q (d.getD 0)))) (lgs b acc (((opR st true (d.getD 0) q).stp (newOf q (d.getD 0))).lg)) K) := by
  simp only [vcR, h, Bool.false_eq_true, if_false]
theorem vcR_n {d : Option Nat} {q : O} : vcR c b (⟨d, none, q⟩ :: is) st acc K = if isCall q = true then TR c b (⟨d, none, q⟩ :: is) st acc K else
    ((opR st true (d.getD 0) q).side ∧ vcR c b is (st.stp d ((opR st true (d.getD 0) q).stp (newOf q (d.getD 0)))) (lgs b acc (((opR st true (d.getD 0) q).stp (newOf q (d.getD 0))).lg)) K) := by
  by_cases h : isCall q = true
  · rw [vcR_call h, if_pos h]
  · rw [vcR_op (by simpa using h), if_neg h]
theorem vcR_s {d : Option Nat} {q : O} {s : Nat} {want : Bool} : vcR c b (⟨d, some (s, want), q⟩ :: is) st acc K = if isCall q = true then TR c b (⟨d, some (s, want), q⟩ :: is) st acc K else
    (match gOf st.env s want with
     | none => False
     | some gc => if hasU (opR st true (d.getD 0) q).upd = true then
         (gc = true → (opR st true (d.getD 0) q).side ∧ vcR c b is (st.stp d ((opR st true (d.getD 0) q).stp (newOf q (d.getD 0)))) (lgs b acc (((opR st true (d.getD 0) q).stp (newOf q (d.getD 0))).lg)) K) ∧
            (gc = false → vcR c b is (st.stp d { val := .un, upd := [], rd := [], new := [] }) (lgs b acc ⟨[], []⟩) K)
       else (gc = true → (opR st gc (d.getD 0) q).side) ∧ (makes q = true → d.getD 0 ∉ st.nm) ∧ vcR c b is (st.stp d { val := .gd gc (opR st true (d.getD 0) q).val, upd := [], rd := (opR st true (d.getD 0) q).rd, new := newOf q (d.getD 0) }) (lgs b acc ⟨(opR st true (d.getD 0) q).rd, newOf q (d.getD 0)⟩) K) := by
  simp only [vcR]

theorem guard_of {ops : Array Oper} {o : Oper} {d : Option Nat} {s : Nat} {want : Bool} {q : O} (hc : Cmp c ops o ⟨d, some (s, want), q⟩) : ∃ j, o.guard = some (j, want) ∧ (ops[j]?).bind (·.dst) = some s := by
  have hcg := hc.gd
  cases hgo : o.guard with
  | none => simp only [hgo] at hcg; cases hcg
  | some jw =>
    obtain ⟨j, w'⟩ := jw
    simp only [hgo] at hcg
    obtain ⟨s', hs', e⟩ := hcg
    injection e with e; injection e with e1 e2
    exact ⟨j, by rw [e2], by rw [hs', e1]⟩

theorem gOf_congr {st st1 : St} {d : Option Nat} {s : Nat} {want : Bool} {q : O} (h : ∀ k, k ∈ (I.slots ⟨d, some (s, want), q⟩) → get st1.env k = get st.env k) : gOf st1.env s want = gOf st.env s want := by
  unfold gOf
  rw [h s (by simp [I.slots])]

/-- Behind an open guard an operation does all that it does without one. -/
theorem valid_on {d : Option Nat} {s : Nat} {want : Bool} {q : O} (hg : gOf st.env s want = some true) {sp : Stp} (h : Valid c ⟨d, none, q⟩ st sp) : Valid c ⟨d, some (s, want), q⟩ st sp := by
  intro st1 h1 h2 h3 ops o hc β a w H Q K hK
  obtain ⟨j, hgo, hj⟩ := guard_of hc
  have hw := wanted_ok H hgo hj (by rw [gOf_congr h1]; exact hg)
  rw [if_pos hw]
  have := h st1 (fun k hk => h1 k (by simp [I.slots] at hk ⊢; exact .inr hk)) h2 h3 (o := { o with guard := none }) ops ⟨hc.dst, hc.lt, hc.op, hc.mkk, hc.st, rfl⟩ β a w H Q K hK
  rw [if_pos (by simp [Region.wanted])] at this
  exact this

/-- Behind a shut one it does nothing. -/
theorem valid_off {d : Option Nat} {s : Nat} {want : Bool} {q : O} (hg : gOf st.env s want = some false) : Valid c ⟨d, some (s, want), q⟩ st { val := .un, upd := [], rd := [], new := [] } := by
  intro st1 h1 h2 h3 ops o hc β a w H Q K hK
  obtain ⟨j, hgo, hj⟩ := guard_of hc
  have hw := wanted_ok H hgo hj (by rw [gOf_congr h1]; exact hg)
  rw [if_neg (by rw [hw]; simp)]
  have hdst := hc.dst
  simp only at hdst
  refine hK β _ w ?_
  rw [hdst]
  simp only [St.stp, applyU, newN]
  cases d with
  | none => exact H
  | some d' => exact H.setV (hc.lt d' rfl) (.un _)

theorem newOf_fresh {d : Nat} {q : O} {p : Bool} (hs : (opR st p d q).side) : ∀ k, k ∈ newOf q d → k ∉ st.nm := fun k hk => by
  unfold newOf at hk
  split at hk
  · rename_i hm
    simp at hk
    subst hk
    exact makes_upd hs hm
  · simp at hk

theorem vcR_ok : ∀ {is : List I} {st : St} {acc : List Lg}, vcR c b is st acc K → TR c b is st acc K
  | [], st, acc, h => TR.nil h
  | ⟨d, g, q⟩ :: is, st, acc, h => by
    by_cases hq : isCall q = true
    · rw [vcR_call hq] at h; exact h
    · have hq' : isCall q = false := by simpa using hq
      cases g with
      | none =>
        rw [vcR_op hq'] at h
        obtain ⟨h1, h2⟩ := h
        exact TR.cons _ (valid_op hq' h1) (newOf_fresh h1) (vcR_ok h2)
      | some g =>
        obtain ⟨s, want⟩ := g
        rw [vcR_s, if_neg hq] at h
        split at h
        · exact h.elim
        · rename_i gc hg
          by_cases hm : hasU (opR st true (d.getD 0) q).upd = true
          · rw [if_pos hm] at h
            cases gc with
            | true =>
              obtain ⟨h1, h2⟩ := h.1 rfl
              exact TR.cons _ (valid_on hg (valid_op hq' h1)) (newOf_fresh h1) (vcR_ok h2)
            | false => exact TR.cons _ (valid_off hg) (fun k hk => by simp at hk) (vcR_ok (h.2 rfl))
          · rw [if_neg hm] at h
            obtain ⟨h1, h2, h3⟩ := h
            refine TR.cons _ (valid_gd hq' hg h1 (hasU_nil (by simpa using hm))) (fun k hk => ?_) (vcR_ok h3)
            unfold newOf at hk
            split at hk
            · rename_i hmm
              simp at hk
              subst hk
              exact h2 hmm
            · simp at hk

theorem vcR_mono {K' : List Lg → St → Prop} (hk : ∀ acc st, K acc st → K' acc st) : ∀ {is : List I} {st : St} {acc : List Lg}, vcR c b is st acc K → vcR c b is st acc K'
  | [], st, acc, h => hk _ _ h
  | ⟨d, g, q⟩ :: is, st, acc, h => by
    by_cases hq : isCall q = true
    · rw [vcR_call hq] at h ⊢; exact h.mono hk
    · have hq' : isCall q = false := by simpa using hq
      cases g with
      | none =>
        rw [vcR_op hq'] at h ⊢
        exact ⟨h.1, vcR_mono hk h.2⟩
      | some g =>
        obtain ⟨s, want⟩ := g
        rw [vcR_s, if_neg hq] at h ⊢
        split at h
        · exact h.elim
        · rename_i gc hg
          by_cases hm : hasU (opR st true (d.getD 0) q).upd = true
          · rw [if_pos hm] at h
            simp only [hm, if_true]
            exact ⟨fun e => ⟨(h.1 e).1, vcR_mono hk (h.1 e).2⟩, fun e => vcR_mono hk (h.2 e)⟩
          · rw [if_neg hm] at h
            simp only [hm]
            exact ⟨h.1, h.2.1, vcR_mono hk h.2.2⟩

/-! Calls. -/
theorem cCall_func {P : Program} {cl : Call} {f : FuncId} {xs : List X} (h : cCall P cl = some (.call f xs)) : cl.callee = .value (.func f) ∧ cXs cl.args.toList = some xs := by
  unfold cCall at h
  split at h
  · unfold cBuiltin at h
    (repeat' split at h) <;> first | (cases h; done) | (obtain ⟨_, _, h3⟩ := Option.map_eq_some_iff.1 h; cases h3; done)
  · rename_i f' hf
    obtain ⟨ys, h1, h2⟩ := Option.map_eq_some_iff.1 h
    cases h2
    exact ⟨hf, h1⟩
  · split at h <;> cases h
  · cases h

theorem cCall_val {P : Program} {cl : Call} {x : X} {xs : List X} (h : cCall P cl = some (.callv x xs)) : ∃ ox, cl.callee = .value ox ∧ cX ox = some x ∧ cXs cl.args.toList = some xs := by
  unfold cCall at h
  split at h
  · unfold cBuiltin at h
    (repeat' split at h) <;> first | (cases h; done) | (obtain ⟨_, _, h3⟩ := Option.map_eq_some_iff.1 h; cases h3; done)
  · obtain ⟨ys, h1, h2⟩ := Option.map_eq_some_iff.1 h
    cases h2
  · rename_i ox hne hcl
    split at h
    · rename_i y ys h1 h2
      cases h
      exact ⟨_, hcl, h1, h2⟩
    · cases h
  · cases h

theorem cOp_call {P : Program} {o : Oper} {q : O} (h : cOp P o = some q) (hq : isCall q = true) (hna : ∀ sz n x, q ≠ .asl sz n x) : ∃ cl, o.op = .call cl ∧ cCall P cl = some q := by
  unfold cOp at h
  split at h
  case h_22 => rename_i cl ho; exact ⟨cl, ho, h⟩
  all_goals (try (obtain ⟨y, _, rfl⟩ := Option.map_eq_some_iff.1 h; simp [isCall] at hq; done))
  all_goals ((repeat' split at h) <;> first | (cases h; simp [isCall] at hq; done) | (cases h; done) | (cases h; exact absurd rfl (hna _ _ _)) | (obtain ⟨y, _, rfl⟩ := Option.map_eq_some_iff.1 h; simp [isCall] at hq; done))
theorem cOp_asl {P : Program} {o : Oper} {sz n : Nat} {x : X} (h : cOp P o = some (.asl sz n x)) : ∃ t e ox, o.op = .slice t ox none none none ∧ P.underlying t = some (.array n e) ∧ szB P e = some sz ∧ cX ox = some x := by
  unfold cOp at h
  split at h
  case h_21 =>
    rename_i t ox lo hi mx ho
    split at h
    · split at h <;> cases h
    · rename_i n' e x' ht hx
      split at h
      · rename_i sz' hz
        cases h
        exact ⟨t, e, ox, ho, ht, hz, hx⟩
      · cases h
    · cases h
  case h_22 =>
    rename_i cl ho
    unfold cCall at h
    split at h
    · unfold cBuiltin at h
      (repeat' split at h) <;> first | (cases h; done) | (obtain ⟨_, _, h3⟩ := Option.map_eq_some_iff.1 h; cases h3; done)
    · obtain ⟨_, _, h3⟩ := Option.map_eq_some_iff.1 h; cases h3
    · split at h <;> cases h
    · cases h
  all_goals (try (obtain ⟨_, _, h3⟩ := Option.map_eq_some_iff.1 h; cases h3; done))
  all_goals ((repeat' split at h) <;> first | (cases h; done) | (obtain ⟨_, _, h3⟩ := Option.map_eq_some_iff.1 h; cases h3; done))

theorem evVs_len : ∀ (xs : List X), (evVs st xs).length = xs.length
  | [] => rfl
  | x :: xs => by simp [evVs, evVs_len xs]

theorem gslots_call {d : Option Nat} {g : Option (Nat × Bool)} {f : Nat} {xs : List X} : ∀ k, k ∈ xsSlots xs → k ∈ (I.slots ⟨d, g, .call f xs⟩) := fun k hk => by simp [I.slots, O.slots, hk]

theorem valid_call {d : Option Nat} {f : Nat} {xs : List X} {ins outs : List (Nat × Own)} {res : V} {new : List Nat} (hS : Ctr c.P f (evVs st xs) ins res outs new) (hs : evSs true st xs)
    (hin : ∀ k o, (k, o) ∈ ins → own? st.own k = some o) (hno : (keysO ins).Nodup) : Valid c ⟨d, none, .call f xs⟩ st { val := res, upd := callU ins outs, rd := keysO ins, new := new } := by
  intro st1 h1 h2 h3 ops o hc β a w H Q K hK
  have hcg := hc.gd
  have hg : o.guard = none := by
    cases hg : o.guard with
    | none => rfl
    | some jw => simp only [hg] at hcg; obtain ⟨s, _, h⟩ := hcg; cases h
  rw [if_pos (by simp [Region.wanted, hg])]
  have hsl : ∀ k, k ∈ xsSlots xs → get st1.env k = get st.env k := fun k hk => h1 k (gslots_call k hk)
  have e1 := evVs_congr hsl
  have e2 := evSs_congr (p := true) hsl
  obtain ⟨cl, hcl, hcc⟩ := cOp_call hc.op rfl (by simp)
  obtain ⟨h4, h5⟩ := cCall_func hcc
  obtain ⟨q1, q2⟩ := evVs_ok H h5 (by rw [e2]; exact hs)
  rw [e1] at q1 q2
  have hrun : (execOp a.eval o).run c.P w = .ok (.enter f (cl.args.map a.eval)) w := by
    have hcf := run_callFunc (w := w) hS.1 (cl.args.map a.eval)
    simp [execOp, hcl, resolve, h4, Act.eval, Deferred.ofValue, invoke, hcf]
  exact call_wp H hS hc.dst hc.lt hno (fun k o h => by rw [h2 k (mem_keys h)]; exact hin k o h) h3 hrun (by simpa using q1) (fun j v x hv hx => q2 j v x (by simpa using hv) hx) hK

theorem valid_callv {d : Option Nat} {x : X} {f : Nat} {first cap : List V} {xs : List X} {ins outs : List (Nat × Own)} {res : V} {new : List Nat} (hx : evV st x = .fn (.func f) first cap) (hS : Ctr c.P f (first ++ (evVs st xs ++ cap)) ins res outs new) (hsx : evS true st x) (hs : evSs true st xs)
    (hin : ∀ k o, (k, o) ∈ ins → own? st.own k = some o) (hno : (keysO ins).Nodup) : Valid c ⟨d, none, .callv x xs⟩ st { val := res, upd := callU ins outs, rd := keysO ins, new := new } := by
  intro st1 h1 h2 h3 ops o hc β a w H Q K hK
  have hcg := hc.gd
  have hg : o.guard = none := by
    cases hg : o.guard with
    | none => rfl
    | some jw => simp only [hg] at hcg; obtain ⟨s, _, h⟩ := hcg; cases h
  rw [if_pos (by simp [Region.wanted, hg])]
  have hsl : ∀ k, k ∈ xsSlots xs → get st1.env k = get st.env k := fun k hk => h1 k (by simp [I.slots, O.slots, hk])
  have hslx : ∀ k, k ∈ x.slots → get st1.env k = get st.env k := fun k hk => h1 k (by simp [I.slots, O.slots, hk])
  have e1 := evVs_congr hsl
  have e2 := evSs_congr (p := true) hsl
  obtain ⟨cl, hcl, hcc⟩ := cOp_call hc.op rfl (by simp)
  obtain ⟨ox, h4, hox, h5⟩ := cCall_val hcc
  obtain ⟨q1, q2⟩ := evVs_ok H h5 (by rw [e2]; exact hs)
  rw [e1] at q1 q2
  have hv0 := evV_ok H hox (by rw [evS_congr hslx]; exact hsx)
  rw [evV_congr hslx, hx] at hv0
  generalize hu : a.eval ox = u at *
  cases hv0 with
  | fn _ fi ca _ _ g1 g2 r1 r2 =>
    have hrun : (execOp a.eval o).run c.P w = .ok (.enter f (fi ++ cl.args.map a.eval ++ ca)) w := by
      have hcf := run_callFunc (w := w) hS.1 (fi ++ cl.args.map a.eval ++ ca)
      simp only [execOp, hcl, resolve, h4, hu, Deferred.ofValue, invoke, Sem.run_bind, Sem.run_pure, Result.andThen_ok]
      exact hcf
    have hl : cl.args.size = (evVs st xs).length := by simpa using q1
    refine call_wp H hS hc.dst hc.lt hno (fun k o h => by rw [h2 k (mem_keys h)]; exact hin k o h) h3 hrun (by simp; omega) (fun j v y hv hy => ?_) hK
    have hv' : (fi.toList ++ (cl.args.toList.map a.eval ++ ca.toList))[j]? = some v := by
      rw [← Array.getElem?_toList] at hv
      simpa using hv
    by_cases hj : j < first.length
    · rw [List.getElem?_append_left (by simp; omega)] at hv'
      rw [List.getElem?_append_left hj] at hy
      exact r1 j v y (by simpa using hv') hy
    · rw [List.getElem?_append_right (by simp; omega)] at hv'
      rw [List.getElem?_append_right (by omega)] at hy
      simp only [Array.length_toList, g1] at hv'
      by_cases hj2 : j - first.length < (evVs st xs).length
      · rw [List.getElem?_append_left (by simp; omega)] at hv'
        rw [List.getElem?_append_left hj2] at hy
        exact q2 _ v y hv' hy
      · rw [List.getElem?_append_right (by simp; omega)] at hv'
        rw [List.getElem?_append_right (by omega)] at hy
        simp only [List.length_map, Array.length_toList, hl] at hv'
        exact r2 _ v y (by simpa using hv') hy

/-- A slice of a whole array. -/
theorem valid_asl {d : Option Nat} {sz n : Nat} {x : X} {cs : List D} (hx : evV st x = .mem cs) (hs : evS true st x) (hl : n * sz ≤ cs.length) : Valid c ⟨d, none, .asl sz n x⟩ st { val := .d (.sl true sz n (litRow sz cs)), upd := [], rd := [], new := [] } := by
  intro st1 h1 h2 h3 ops o hc β a w H Q K hK
  have hcg := hc.gd
  have hg : o.guard = none := by
    cases hg : o.guard with
    | none => rfl
    | some jw => simp only [hg] at hcg; obtain ⟨s, _, h⟩ := hcg; cases h
  rw [if_pos (by simp [Region.wanted, hg])]
  obtain ⟨t, e, ox, ho, ht, hz, hcx⟩ := cOp_asl hc.op
  have hsl : ∀ k, k ∈ x.slots → get st1.env k = get st.env k := fun k hk => h1 k (by simp [I.slots, O.slots, hk])
  have hx1 : evV st1 x = .mem cs := (evV_congr hsl).trans hx
  have hdst := hc.dst
  simp only at hdst
  obtain ⟨v, w', β', hr, _, H'⟩ := s_asl (d := 0) H (fun d hd => hc.lt d (hdst ▸ hd)) ho ht hz hcx (by simp only [opR, hx1]; exact ⟨by rw [evS_congr hsl]; exact hs, hl⟩)
  refine Oper.wp_ok hr (hK β' _ w' ?_)
  rw [hdst] at H' ⊢
  simp only [opR, hx1] at H'
  simpa [St.app, St.stp] using H'

/-- A guarded call of a function that has no own blocks lent or made: what it yields, where it is carried out. -/
theorem valid_gd_pure {d : Option Nat} {s : Nat} {want gc : Bool} {q : O} {res : V} (hg : gOf st.env s want = some gc) (h : gc = true → Valid c ⟨d, none, q⟩ st { val := res, upd := [], rd := [], new := [] }) :
    Valid c ⟨d, some (s, want), q⟩ st { val := .gd gc res, upd := [], rd := [], new := [] } := by
  intro st1 h1 h2 h3 ops o hc β a w H Q K hK
  cases gc with
  | true =>
    refine valid_on hg (h rfl) st1 h1 h2 h3 ops o hc β a w H Q K (fun β' a' w' H' => hK β' a' w' ?_)
    simp only [St.stp, applyU, newN] at H' ⊢
    cases d with
    | none => exact H'
    | some d' =>
      simp only [setE] at H' ⊢
      refine ⟨H'.sz, H'.df, fun s' => ?_, H'.own, H'.fr, H'.kn, H'.nm, H'.kp, H'.fx⟩
      have h5 := H'.env s'
      simp only [get] at h5 ⊢
      split
      · rename_i e
        rw [if_pos e] at h5
        exact .gd _ _ _ (fun _ => h5) (fun h => by cases h)
      · rename_i e
        rw [if_neg e] at h5
        exact h5
  | false =>
    obtain ⟨j, hgo, hj⟩ := guard_of hc
    have hw := wanted_ok H hgo hj (by rw [gOf_congr h1]; exact hg)
    rw [if_neg (by rw [hw]; simp)]
    have hdst := hc.dst
    simp only at hdst
    refine hK β _ w ?_
    rw [hdst]
    simp only [St.stp, applyU, newN]
    cases d with
    | none => exact H
    | some d' => exact H.setV (hc.lt d' rfl) (.gd _ _ _ (fun h => by cases h) (fun _ => rfl))

/-! The rules, as they are used. -/
theorem TR.call {d : Option Nat} {f : Nat} {xs : List X} (ins outs : List (Nat × Own)) (res : V) (new : List Nat) (hS : Ctr c.P f (evVs st xs) ins res outs new) (hs : evSs true st xs) (hin : ∀ k o, (k, o) ∈ ins → own? st.own k = some o) (hno : (keysO ins).Nodup) (hnew : ∀ k, k ∈ new → k ∉ st.nm)
    (h : vcR c b is (st.stp d { val := res, upd := callU ins outs, rd := keysO ins, new := new }) (lgs b acc ⟨keysO ins, (callU ins outs).map (·.1) ++ new⟩) K) : TR c b (⟨d, none, .call f xs⟩ :: is) st acc K :=
  TR.cons _ (valid_call hS hs hin hno) hnew (vcR_ok h)

theorem TR.pure {d : Option Nat} {f : Nat} {xs : List X} {res : V} (hS : Ctr c.P f (evVs st xs) [] res [] []) (hs : evSs true st xs)
    (h : vcR c b is (st.stp d { val := res, upd := [], rd := [], new := [] }) (lgs b acc ⟨[], []⟩) K) : TR c b (⟨d, none, .call f xs⟩ :: is) st acc K :=
  TR.cons { val := res, upd := [], rd := [], new := [] } (valid_call hS hs (fun k o h => by simp at h) (by simp [keysO])) (fun k hk => by simp at hk) (vcR_ok h)

theorem TR.callv {d : Option Nat} {x : X} {f : Nat} {first cap : List V} {xs : List X} (ins outs : List (Nat × Own)) (res : V) (new : List Nat) (hx : evV st x = .fn (.func f) first cap) (hS : Ctr c.P f (first ++ (evVs st xs ++ cap)) ins res outs new) (hsx : evS true st x) (hs : evSs true st xs) (hin : ∀ k o, (k, o) ∈ ins → own? st.own k = some o) (hno : (keysO ins).Nodup) (hnew : ∀ k, k ∈ new → k ∉ st.nm)
    (h : vcR c b is (st.stp d { val := res, upd := callU ins outs, rd := keysO ins, new := new }) (lgs b acc ⟨keysO ins, (callU ins outs).map (·.1) ++ new⟩) K) : TR c b (⟨d, none, .callv x xs⟩ :: is) st acc K :=
  TR.cons _ (valid_callv hx hS hsx hs hin hno) hnew (vcR_ok h)

theorem TR.gpure {d : Option Nat} {s : Nat} {want gc : Bool} {f : Nat} {xs : List X} {res : V} (hg : gOf st.env s want = some gc) (hS : gc = true → Ctr c.P f (evVs st xs) [] res [] []) (hs : gc = true → evSs true st xs)
    (h : vcR c b is (st.stp d { val := .gd gc res, upd := [], rd := [], new := [] }) (lgs b acc ⟨[], []⟩) K) : TR c b (⟨d, some (s, want), .call f xs⟩ :: is) st acc K :=
  TR.cons { val := .gd gc res, upd := [], rd := [], new := [] } (valid_gd_pure hg fun hgc => valid_call (hS hgc) (hs hgc) (fun k o h => by simp at h) (by simp [keysO])) (fun k hk => by simp at hk) (vcR_ok h)

/-- The same two, with the program named apart. -/
theorem TR.p {P : Program} (hP : c.P = P) {d : Option Nat} {f : Nat} {xs : List X} {res : V} (hS : Ctr P f (evVs st xs) [] res [] []) (hs : evSs true st xs)
    (h : vcR c b is (st.stp d { val := res, upd := [], rd := [], new := [] }) (lgs b acc ⟨[], []⟩) K) : TR c b (⟨d, none, .call f xs⟩ :: is) st acc K :=
  TR.pure (by rw [hP]; exact hS) hs h
theorem TR.gp {P : Program} (hP : c.P = P) {d : Option Nat} {s : Nat} {want gc : Bool} {f : Nat} {xs : List X} {res : V} (hg : gOf st.env s want = some gc) (hS : gc = true → Ctr P f (evVs st xs) [] res [] []) (hs : gc = true → evSs true st xs)
    (h : vcR c b is (st.stp d { val := .gd gc res, upd := [], rd := [], new := [] }) (lgs b acc ⟨[], []⟩) K) : TR c b (⟨d, some (s, want), .call f xs⟩ :: is) st acc K :=
  TR.gpure hg (fun e => by rw [hP]; exact hS e) hs h

theorem TR.pv {P : Program} (hP : c.P = P) {d : Option Nat} {x : X} {f : Nat} {first cap : List V} {xs : List X} {res : V} (hx : evV st x = .fn (.func f) first cap) (hS : Ctr P f (first ++ (evVs st xs ++ cap)) [] res [] []) (hsx : evS true st x) (hs : evSs true st xs)
    (h : vcR c b is (st.stp d { val := res, upd := [], rd := [], new := [] }) (lgs b acc ⟨[], []⟩) K) : TR c b (⟨d, none, .callv x xs⟩ :: is) st acc K :=
  TR.cons { val := res, upd := [], rd := [], new := [] } (valid_callv hx (by rw [hP]; exact hS) hsx hs (fun k o h => by simp at h) (by simp [keysO])) (fun k hk => by simp at hk) (vcR_ok h)
/-- A call that is lent one own block, and gives it back. -/
theorem TR.c1 {P : Program} (hP : c.P = P) {d : Option Nat} {f : Nat} {xs : List X} {k : Nat} {o o' : Own} {res : V} (hS : Ctr P f (evVs st xs) [(k, o)] res [(k, o')] []) (hs : evSs true st xs) (hin : own? st.own k = some o)
    (h : vcR c b is (st.stp d { val := res, upd := [(k, none), (k, some o')], rd := [k], new := [] }) (lgs b acc ⟨[k], [k, k]⟩) K) : TR c b (⟨d, none, .call f xs⟩ :: is) st acc K :=
  TR.call [(k, o)] [(k, o')] res [] (by rw [hP]; exact hS) hs (fun k' o'' h => by simp at h; obtain ⟨rfl, rfl⟩ := h; exact hin) (by simp [keysO]) (by simp) h
theorem TR.cv1 {P : Program} (hP : c.P = P) {d : Option Nat} {x : X} {f : Nat} {first cap : List V} {xs : List X} {k : Nat} {o o' : Own} {res : V} (hx : evV st x = .fn (.func f) first cap) (hS : Ctr P f (first ++ (evVs st xs ++ cap)) [(k, o)] res [(k, o')] []) (hsx : evS true st x) (hs : evSs true st xs) (hin : own? st.own k = some o)
    (h : vcR c b is (st.stp d { val := res, upd := [(k, none), (k, some o')], rd := [k], new := [] }) (lgs b acc ⟨[k], [k, k]⟩) K) : TR c b (⟨d, none, .callv x xs⟩ :: is) st acc K :=
  TR.callv [(k, o)] [(k, o')] res [] hx (by rw [hP]; exact hS) hsx hs (fun k' o'' h => by simp at h; obtain ⟨rfl, rfl⟩ := h; exact hin) (by simp [keysO]) (by simp) h

theorem TR.asl {d : Option Nat} {sz n : Nat} {x : X} {cs : List D} (hx : evV st x = .mem cs) (hs : evS true st x) (hl : n * sz ≤ cs.length)
    (h : vcR c b is (st.stp d { val := .d (.sl true sz n (litRow sz cs)), upd := [], rd := [], new := [] }) (lgs b acc ⟨[], []⟩) K) : TR c b (⟨d, none, .asl sz n x⟩ :: is) st acc K :=
  TR.cons { val := .d (.sl true sz n (litRow sz cs)), upd := [], rd := [], new := [] } (valid_asl hx hs hl) (fun k hk => by simp at hk) (vcR_ok h)

/-- A guarded instruction, by its guard's two ways. -/
theorem TR.split {d : Option Nat} {s : Nat} {want gc : Bool} {q : O} (sp : Stp) (hg : gOf st.env s want = some gc) (hv : gc = true → Valid c ⟨d, none, q⟩ st sp) (hn : gc = true → ∀ k, k ∈ sp.new → k ∉ st.nm)
    (h1 : gc = true → vcR c b is (st.stp d sp) (lgs b acc sp.lg) K) (h2 : gc = false → vcR c b is (st.stp d { val := .un, upd := [], rd := [], new := [] }) (lgs b acc ⟨[], []⟩) K) : TR c b (⟨d, some (s, want), q⟩ :: is) st acc K := by
  cases gc with
  | true => exact TR.cons sp (valid_on hg (hv rfl)) (hn rfl) (vcR_ok (h1 rfl))
  | false => exact TR.cons _ (valid_off hg) (fun k hk => by simp at hk) (vcR_ok (h2 rfl))

end
end Go.Bx
