import Derived.Test.YtkifajabiggfmaaXG3
import Derived.RangeFuncRecord
import Derived.Below
import Derived.Deep.LoopGhost
import Derived.ScopeJumps
import Derived.ControlIn
section
set_option linter.unusedSimpArgs false
set_option linter.unusedVariables false
namespace Go.Bx
open Go.RowKit
def bnd (e : Edge) : Bool := Region.binds .any e
def inAnc (anc : List Nat) (j i : Nat) : Bool := decide (i < j) && (anc.getD j 0).testBit i
def ancOk (ops : Array Oper) (anc : List Nat) : Bool :=
  (List.range ops.size).all fun j =>
    match ops[j]? with
    | none => false
    | some o => o.after.toList.all (fun e => !bnd e || decide (e.on < j)) && (List.range j).all (fun i => !(inAnc anc j i) || o.after.toList.any (fun e => bnd e && (e.on == i || inAnc anc e.on i)))
def hitS (a : I) (b : I) : Bool :=
  match a.dst with
  | some d => b.slots.contains d || b.dst == some d
  | none => false
def meetS (a b : I) : Bool := hitS a b || hitS b a
def slotsOk (is : List I) (anc : List Nat) : Bool :=
  (List.range is.length).all fun j => (List.range j).all fun i =>
    match is[i]?, is[j]? with
    | some a, some b => !meetS a b || inAnc anc j i
    | _, _ => false
def hitL (a b : Lg) : Bool := a.wr.any fun k => b.wr.contains k || b.rd.contains k
def meetL (a b : Lg) : Bool := hitL a b || hitL b a
def ownOk (lg : List Lg) (anc : List Nat) : Bool :=
  (List.range lg.length).all fun j => (List.range j).all fun i =>
    match lg[i]?, lg[j]? with
    | some a, some b => !meetL a b || inAnc anc j i
    | _, _ => false
theorem slotsOk_at {is : List I} {anc : List Nat} (h : slotsOk is anc = true) {i j : Nat} (hij : i < j) {a b : I} (ha : is[i]? = some a) (hb : is[j]? = some b) (hm : meetS a b = true) : inAnc anc j i = true := by
  have hj : j < is.length := (List.getElem?_eq_some_iff.1 hb).1
  have := List.all_eq_true.1 (List.all_eq_true.1 h j (List.mem_range.2 hj)) i (List.mem_range.2 hij)
  simp only [ha, hb, hm, Bool.not_true, Bool.false_or] at this
  exact this
theorem ownOk_at {lg : List Lg} {anc : List Nat} (h : ownOk lg anc = true) {i j : Nat} (hij : i < j) {a b : Lg} (ha : lg[i]? = some a) (hb : lg[j]? = some b) (hm : meetL a b = true) : inAnc anc j i = true := by
  have hj : j < lg.length := (List.getElem?_eq_some_iff.1 hb).1
  have := List.all_eq_true.1 (List.all_eq_true.1 h j (List.mem_range.2 hj)) i (List.mem_range.2 hij)
  simp only [ha, hb, hm, Bool.not_true, Bool.false_or] at this
  exact this
def Shut (ops : Array Oper) (L : Nat → Bool) : Prop := ∀ j o, ops[j]? = some o → L j = true → ∀ e, e ∈ o.after.toList → bnd e = true → L e.on = true
theorem anc_listed {ops : Array Oper} {anc : List Nat} {L : Nat → Bool} (ha : ancOk ops anc = true) (hs : Shut ops L) : ∀ (j : Nat) (o : Oper), ops[j]? = some o → (∀ e, e ∈ o.after.toList → bnd e = true → L e.on = true) → ∀ i, inAnc anc j i = true → L i = true := by
  intro j
  induction j using Nat.strongRecOn with
  | _ j ih =>
    intro o ho hl i hi
    have hj : j < ops.size := (Array.getElem?_eq_some_iff.1 ho).1
    have h1 := List.all_eq_true.1 ha j (List.mem_range.2 hj)
    simp only [ho, Bool.and_eq_true] at h1
    have hij : i < j := by simp [inAnc] at hi; exact hi.1
    have h2 := List.all_eq_true.1 h1.2 i (List.mem_range.2 hij)
    simp only [hi, Bool.not_true, Bool.false_or] at h2
    obtain ⟨e, he, hb⟩ := List.any_eq_true.1 h2
    simp only [Bool.and_eq_true, Bool.or_eq_true, beq_iff_eq] at hb
    have hle := hl e he hb.1
    rcases hb.2 with h3 | h3
    · rw [← h3]; exact hle
    · have hlt : e.on < j := by
        have := List.all_eq_true.1 h1.1 e he
        simp [hb.1] at this
        exact this
      have ho' : ∃ o', ops[e.on]? = some o' := ⟨ops[e.on]'(by omega), Array.getElem?_eq_getElem (by omega)⟩
      obtain ⟨o', ho'⟩ := ho'
      exact ih e.on hlt o' ho' (fun e' he' hb' => hs e.on o' ho' hle e' he' hb') i h3
theorem ready_mem {ops : Array Oper} {listed : Array Bool} {i : Nat} (h : i ∈ Region.ready .any ops listed) :
    i < ops.size ∧ listed.getD i true = false ∧ ∃ o, ops[i]? = some o ∧ ∀ e, e ∈ o.after.toList → bnd e = true → listed.getD e.on false = true := by
  unfold Region.ready at h
  obtain ⟨h1, h2⟩ := List.mem_filter.1 h
  have hi := List.mem_range.1 h1
  simp only [Bool.and_eq_true, Bool.not_eq_true', Array.getElem?_eq_getElem hi, Option.map_some, Option.getD_some] at h2
  refine ⟨hi, h2.1, ops[i], Array.getElem?_eq_getElem hi, fun e he hb => ?_⟩
  have := Array.all_eq_true'.1 h2.2 e (Array.mem_toList_iff.1 he)
  unfold bnd at hb
  simpa [hb] using this
theorem ready_nil {ops : Array Oper} {anc : List Nat} {listed : Array Bool} (ha : ancOk ops anc = true) (hsz : listed.size = ops.size) (h : Region.ready .any ops listed = []) : ∀ j, j < ops.size → listed.getD j false = true := by
  intro j
  induction j using Nat.strongRecOn with
  | _ j ih =>
    intro hj
    cases hl : listed.getD j false with
    | true => rfl
    | false =>
      exfalso
      have h1 := List.all_eq_true.1 ha j (List.mem_range.2 hj)
      have hoj := Array.getElem?_eq_getElem hj
      simp only [hoj, Bool.and_eq_true] at h1
      have hmem : j ∈ Region.ready .any ops listed := by
        unfold Region.ready
        refine List.mem_filter.2 ⟨List.mem_range.2 hj, ?_⟩
        have hlt : listed.getD j true = false := by
          have hjl : j < listed.size := by omega
          simp [hjl] at hl ⊢
          exact hl
        simp only [hlt, hoj, Bool.not_false, Bool.true_and, Option.map_some, Option.getD_some]
        refine Array.all_eq_true'.2 fun e he => ?_
        cases hb : Region.binds .any e with
        | false => simp
        | true =>
          have := List.all_eq_true.1 h1.1 e (Array.mem_toList_iff.2 he)
          simp [bnd, hb] at this
          simp [ih e.on this (by omega)]
      rw [h] at hmem
      cases hmem
section
variable {c : Ctx}
theorem wpOpIn_step {c : Ctx} {ops : Array Oper} {Q : Exit → Act → World → Prop} {i : Nat} {o : Oper} {K : Act → World → Prop} {a : Act} {w : World} (ho : ops[i]? = some o)
    (h : ∀ K' : Act → World → Prop, (∀ a w, K a w → K' a w) → if Region.wanted o (yielded ops a.tmps) = true then o.wpIn c.F 0 c.P a w K' Q else K' (a.put o.dst undef) w) : wpOpIn c.F 0 c.P ops Q i K a w := by
  have := h K (fun _ _ h => h)
  unfold wpOpIn
  rw [ho]
  show if Region.wanted o (yielded ops a.tmps) = true then _ else _
  split
  · rename_i hw; rw [if_pos hw] at this; exact this
  · rename_i hw; rw [if_neg hw] at this; exact ⟨fun _ _ => trivial, this⟩
theorem wp_any {ops : Array Oper} {is : List I} {ss : List Stp} {st st' : St} {anc : List Nat} (hT : Trace c st is ss st') (hl : ops.size = is.length) (hc : ∀ (j : Nat) (o : Oper) (i : I), ops[j]? = some o → is[j]? = some i → Cmp c ops o i)
    (ha : ancOk ops anc = true) (hsl : slotsOk is anc = true) (hol : ownOk (ss.map Stp.lg) anc = true) {Q : Exit → Act → World → Prop} (hQ : ∀ β a w, Holds c β st' a w → Q .normal a w) (hn : (keysO st.own).Nodup) :
    ∀ (fuel : Nat) (listed : Array Bool) (β : Names) (a : Act) (w : World), listed.size = ops.size → (fuel + (List.range ops.size).countP (fun j => listed.getD j false) = ops.size) → Shut ops (fun j => listed.getD j false) →
      Holds c β (runS (fun j => listed.getD j false) 0 ((is.map (·.dst)).zip ss) st) a w → wpAnyIn c.F 0 c.P .any ops Q fuel listed a w := by
  have hsl2 := trace_len hT
  have hdone : ∀ (listed : Array Bool) (β : Names) (a : Act) (w : World), listed.size = ops.size → Region.ready .any ops listed = [] → Holds c β (runS (fun j => listed.getD j false) 0 ((is.map (·.dst)).zip ss) st) a w → Q .normal a w := by
    intro listed β a w hsz hr H
    have hall := ready_nil ha hsz hr
    rw [runS_all hT (fun j => listed.getD j false) 0 (fun i hi => by simpa using hall i (by omega))] at H
    exact hQ β a w H
  intro fuel
  induction fuel with
  | zero =>
    intro listed β a w hsz hf hsh H
    have hall : ∀ j, j < ops.size → listed.getD j false = true := by
      intro j hj
      have : (List.range ops.size).countP (fun j => listed.getD j false) = (List.range ops.size).length := by rw [List.length_range]; omega
      exact List.countP_eq_length.1 this j (List.mem_range.2 hj)
    have hr : Region.ready .any ops listed = [] := by
      cases h : Region.ready .any ops listed with
      | nil => rfl
      | cons x l =>
        obtain ⟨h1, h2, _⟩ := ready_mem (by rw [h]; exact List.mem_cons_self)
        have := hall x h1
        have hx : x < listed.size := by omega
        simp [hx] at h2 this
        rw [h2] at this
        cases this
    exact ⟨hr, hdone listed β a w hsz hr H⟩
  | succ fuel ih =>
    intro listed β a w hsz hf hsh H
    refine ⟨fun hr => hdone listed β a w hsz hr H, fun J hJ => ?_⟩
    obtain ⟨h1, h2, o, ho, h3⟩ := ready_mem hJ
    have hJl : J < listed.size := by omega
    have hLJ : listed.getD J false = false := by
      simp [hJl] at h2 ⊢
      exact h2
    have hJi : is[J]? = some (is[J]'(by omega)) := List.getElem?_eq_getElem (by omega)
    have hJs : ss[J]? = some (ss[J]'(by omega)) := List.getElem?_eq_getElem (by omega)
    generalize hiJ : is[J]'(by omega) = iJ at hJi
    generalize hsJ : ss[J]'(by omega) = sJ at hJs
    have hsteps : ∀ (i : Nat) (d : Option Nat) (s : Stp), ((is.map (·.dst)).zip ss)[i]? = some (d, s) → ∃ ii, is[i]? = some ii ∧ ss[i]? = some s ∧ ii.dst = d := by
      intro i d s h
      rw [List.getElem?_zip_eq_some] at h
      obtain ⟨q1, q2⟩ := h
      rw [List.getElem?_map, Option.map_eq_some_iff] at q1
      obtain ⟨ii, q3, q4⟩ := q1
      exact ⟨ii, q3, q2, q4⟩
    have hahead : ∀ i, inAnc anc J i = true → listed.getD i false = true := anc_listed ha hsh J o ho h3
    have hbehind : ∀ i, inAnc anc i J = true → i < ops.size → listed.getD i false = false := by
      intro i hi hlt
      cases h : listed.getD i false with
      | false => rfl
      | true =>
        have hoi := Array.getElem?_eq_getElem hlt
        have := anc_listed ha hsh i _ hoi (fun e he hb => hsh i _ hoi h e he hb) J hi
        rw [hLJ] at this
        cases this
    have hmeet : ∀ i ii si, is[i]? = some ii → ss[i]? = some si → (meetS ii iJ = true ∨ meetL si.lg sJ.lg = true) → i ≠ J → listed.getD i false = decide (i < J) := by
      intro i ii si hi hs hm hne
      have hlt : i < ops.size := by have := (List.getElem?_eq_some_iff.1 hi).1; omega
      have hlgi : (ss.map Stp.lg)[i]? = some si.lg := by simp [hs]
      have hlgJ : (ss.map Stp.lg)[J]? = some sJ.lg := by simp [hJs]
      have hsym : ∀ x y, meetS x y = meetS y x := fun x y => by simp [meetS, Bool.or_comm]
      have hsymL : ∀ x y, meetL x y = meetL y x := fun x y => by simp [meetL, Bool.or_comm]
      by_cases hij : i < J
      · have : inAnc anc J i = true := by
          rcases hm with hm | hm
          · exact slotsOk_at hsl hij hi hJi hm
          · exact ownOk_at hol hij hlgi hlgJ hm
        rw [hahead i this]
        simp [hij]
      · have : inAnc anc i J = true := by
          rcases hm with hm | hm
          · exact slotsOk_at hsl (by omega) hJi hi (by rw [hsym]; exact hm)
          · exact ownOk_at hol (by omega) hlgJ hlgi (by rw [hsymL]; exact hm)
        rw [hbehind i this hlt]
        simp; omega
    obtain ⟨hv, hnew⟩ := trace_at hT J iJ sJ 0 (fun x => decide (x < J)) hJi hJs (fun x hx => by simp; exact hx) (fun x hx => by simp; exact hx)
    refine wpOpIn_step ho fun K' hK' => ?_
    refine hv _ (fun k hk => ?_) (fun k hk => ?_) (fun k hk => ?_) ops o (hc J o iJ ho hJi) β a w H Q K' fun β' a' w' H' => hK' a' w' ?_
    · 
      refine runS_get _ 0 _ _ rfl (fun i d s hi hd => ?_)
      obtain ⟨ii, q1, q2, q3⟩ := hsteps i d s hi
      simp only [Nat.zero_add]
      by_cases hne : i = J
      · subst hne; rw [hLJ]; simp
      · exact hmeet i ii s q1 q2 (.inl (by simp [meetS, hitS, q3, hd, hk])) hne
    · refine runS_own _ 0 _ _ hn hn rfl (fun i d s hi hd => ?_)
      obtain ⟨ii, q1, q2, q3⟩ := hsteps i d s hi
      simp only [Nat.zero_add]
      by_cases hne : i = J
      · subst hne; rw [hLJ]; simp
      · refine hmeet i ii s q1 q2 (.inr ?_) hne
        unfold meetL hitL
        rw [Bool.or_eq_true]
        left
        refine List.any_eq_true.2 ⟨k, by simp only [Stp.lg]; exact List.mem_append_left _ hd, ?_⟩
        simp [Stp.lg, hk]
    · 
      intro hin
      rw [runS_nm] at hin
      have h0 := hnew k hk
      rw [runS_nm] at h0
      rcases hin with hin | ⟨i, d, s, ow, q0, qL, q5⟩
      · exact h0 (.inl hin)
      · obtain ⟨ii, q1, q2, q3⟩ := hsteps i d s q0
        simp only [Nat.zero_add] at qL
        by_cases hne : i = J
        · subst hne; rw [hLJ] at qL; cases qL
        · have := hmeet i ii s q1 q2 (.inr (by
            unfold meetL hitL
            rw [Bool.or_eq_true]
            left
            refine List.any_eq_true.2 ⟨k, by simp only [Stp.lg]; exact List.mem_append_left _ (List.mem_map.2 ⟨(k, some ow), q5, rfl⟩), ?_⟩
            simp [Stp.lg, hk])) hne
          rw [this] at qL
          exact h0 (.inr ⟨i, d, s, ow, q0, by simpa using qL, q5⟩)
    · 
      have hL' : ∀ j, (listed.setIfInBounds J true).getD j false = (listed.getD j false || j == J) := fun j => by
        simp only [Array.getD_eq_getD_getElem?, Array.getElem?_setIfInBounds]
        by_cases e : J = j
        · subst e; simp [hJl]
        · have : (j == J) = false := by simp; exact fun x => e x.symm
          simp [e, this]
      have hfun : (fun j => (listed.setIfInBounds J true).getD j false) = (fun j => listed.getD j false || j == J) := funext hL'
      refine ih (listed.setIfInBounds J true) β' a' w' (by simp [hsz]) ?_ ?_ ?_
      · rw [hfun]
        have hcount : (List.range ops.size).countP (fun j => listed.getD j false || j == J) = (List.range ops.size).countP (fun j => listed.getD j false) + 1 := by
          have : ∀ n, J < n → (List.range n).countP (fun j => listed.getD j false || j == J) = (List.range n).countP (fun j => listed.getD j false) + 1 := by
            intro n
            induction n with
            | zero => intro h; omega
            | succ n ihn =>
              intro h
              rw [List.range_succ, List.countP_append, List.countP_append]
              by_cases e : n = J
              · subst e
                have : (List.range n).countP (fun j => listed.getD j false || j == n) = (List.range n).countP (fun j => listed.getD j false) := by
                  apply List.countP_congr
                  intro x hx
                  have := List.mem_range.1 hx
                  have h5 : (x == n) = false := by simp; omega
                  simp [h5]
                rw [this, List.countP_singleton, List.countP_singleton, hLJ]
                simp
              · rw [ihn (by omega)]
                have h5 : (n == J) = false := by simp; exact e
                simp [h5]
                omega
          exact this ops.size h1
        rw [hcount]
        omega
      · intro j oj hoj hj e he hb
        simp only [hL'] at hj ⊢
        rcases Bool.or_eq_true _ _ ▸ hj with h | h
        · have := hsh j oj hoj h e he hb
          simp only at this
          rw [this]; rfl
        · simp at h
          subst h
          rw [ho] at hoj
          cases hoj
          rw [h3 e he hb]; rfl
      · rw [hfun]
        have hz : ((is.map (·.dst)).zip ss)[J - 0]? = some (iJ.dst, sJ) := by
          rw [List.getElem?_zip_eq_some]
          exact ⟨by simp [hJi], by simpa using hJs⟩
        have hmore := runS_more (fun j => listed.getD j false) hLJ ((is.map (·.dst)).zip ss) 0 st iJ.dst sJ hn (Nat.zero_le _) hz (fun i d' s' hi hg hLi => by
          obtain ⟨ii, q1, q2, q3⟩ := hsteps i d' s' (by simpa using hg)
          have hnm : ¬ (meetS ii iJ = true ∨ meetL s'.lg sJ.lg = true) := fun hm => by
            have := hmeet i ii s' q1 q2 hm (by omega)
            rw [this] at hLi
            simp at hLi
            omega
          refine ⟨fun x hx hd => hnm (.inl ?_), fun k hk hk2 => hnm (.inr ?_)⟩
          · simp [meetS, hitS, q3, hd, hx]
          · unfold meetL hitL
            rw [Bool.or_eq_true]
            left
            refine List.any_eq_true.2 ⟨k, by simp only [Stp.lg]; exact List.mem_append_left _ hk2, ?_⟩
            simp only [Stp.lg, Bool.or_eq_true]
            left
            simp only [List.contains_iff_mem]
            exact List.mem_append_left _ hk)
        exact H'.ext hmore (runS_nodup _ _ _ _ hn)
end
end Go.Bx
end
section
set_option linter.unusedSimpArgs false
set_option linter.unusedVariables false
namespace Go.Bx
open Go.RowKit
def ownNames : List (Nat × Own) → List Nat
  | [] => []
  | (k, .fix cs) :: l => k :: (namesL cs ++ ownNames l)
  | (k, .lit _ _ _ cs) :: l => k :: (namesL cs ++ ownNames l)
  | (k, .row _ _ _ _) :: l => k :: ownNames l
  | (k, .mp _ _) :: l => k :: ownNames l
  | (k, .lp _ _) :: l => k :: ownNames l
theorem ownNames_key : ∀ {l : List (Nat × Own)} {k : Nat}, k ∈ keysO l → k ∈ ownNames l
  | [], k, h => by simp [keysO] at h
  | (k', o) :: l, k, h => by
    simp only [keysO, List.map_cons, List.mem_cons] at h
    cases o <;> simp only [ownNames, List.mem_cons, List.mem_append] <;> rcases h with h | h <;> first
      | exact .inl h
      | exact .inr (.inr (ownNames_key h))
      | exact .inr (ownNames_key h)
theorem ownNames_in : ∀ {l : List (Nat × Own)} {k : Nat} {o : Own}, (k, o) ∈ l → ∀ j, j ∈ (match o with | .fix cs => namesL cs | .lit _ _ _ cs => namesL cs | .row _ _ _ _ => [] | .mp _ _ => [] | .lp _ _ => []) → j ∈ ownNames l
  | [], k, o, h => by simp at h
  | (k', o') :: l, k, o, h => fun j hj => by
    rcases List.mem_cons.1 h with h | h
    · simp at h
      obtain ⟨rfl, rfl⟩ := h
      cases o <;> simp only at hj <;> simp only [ownNames, List.mem_cons, List.mem_append]
      · exact .inr (.inl hj)
      · simp at hj
      · exact .inr (.inl hj)
      · simp at hj
      · simp at hj
    · have := ownNames_in h j hj
      cases o' <;> simp only [ownNames, List.mem_cons, List.mem_append]
      · exact .inr (.inr this)
      · exact .inr this
      · exact .inr (.inr this)
      · exact .inr this
      · exact .inr this
theorem OwnOk.forget {β β' : Names} {E E' : Nat → Prop} {w w' : World} {k : Nat} {o : Own} (h : OwnOk β E w k o) (hl : Lasts E E' w w') (hk : β' k = β k) (hn : ∀ j, j ∈ (match o with | .fix cs => namesL cs | .lit _ _ _ cs => namesL cs | .row _ _ _ _ => [] | .mp _ _ => [] | .lp _ _ => []) → β' j = β j)
    (hb : ∀ b, β.blk k = some b → w'.heap[b]? = w.heap[b]?) : OwnOk β' E' w' k o := by
  cases o with
  | fix cs =>
    obtain ⟨b, arr, e, h1, h2, h3, h4⟩ := h
    exact ⟨b, arr, e, hk.trans h1, (hb b (by simp [Names.blk, h1, blkOf])).trans h2, h3, fun j v x hv hx => (h4 j v x hv hx).lasts hl (fun n hm => hn n (names_mem hx n hm))⟩
  | row e sz n f =>
    obtain ⟨v, xs, h1, h2, h3, h4⟩ := h
    refine ⟨v, xs, hk.trans h1, h2.lasts (fun b hv => hb b (by simp [Names.blk, h1, hv])), h3, fun i j hi hj x hx => ?_⟩
    obtain ⟨u, hu, hr⟩ := h4 i j hi hj x hx
    exact ⟨u, hu, hr.lasts hl⟩
  | lit e sz n cs =>
    obtain ⟨v0, xs, h1, h2, h3, h4⟩ := h
    exact ⟨v0, xs, hk.trans h1, h2.lasts (fun b hv => hb b (by simp [Names.blk, h1, hv])), h3, fun j v x hv hx => (h4 j v x hv hx).lasts hl (fun n hm => hn n (names_mem hx n hm))⟩
  | mp z g =>
    obtain ⟨b, es, cl, h1, h2, h3, h4, h5, h6⟩ := h
    exact ⟨b, es, cl, hk.trans h1, (hb b (by simp [Names.blk, h1, blkOf])).trans h2, h3, h4, fun i x n hi hx => (h5 i x n hi hx).lasts hl, h6⟩
  | lp l r => exact ⟨hk.trans h.1, (hb l (by simp [Names.blk, h.1, blkOf])).trans h.2⟩
mutual
def V.ren (p : Nat → Nat) : V → V
  | .own k off => .own (p k) off
  | .osl k => .osl (p k)
  | .osub k sz lo n => .osub (p k) sz lo n
  | .optr k sz i off => .optr (p k) sz i off
  | .fn f a b => .fn f (renL p a) (renL p b)
  | .ifc t v => .ifc t (v.ren p)
  | .ag cs => .ag (renL p cs)
  | .tup cs => .tup (renL p cs)
  | .gd c v => .gd c (v.ren p)
  | .un => .un
  | .d x => .d x
  | .mem cs => .mem cs
def renL (p : Nat → Nat) : List V → List V
  | [] => []
  | v :: l => v.ren p :: renL p l
end
def Own.ren (p : Nat → Nat) : Own → Own
  | .fix cs => .fix (renL p cs)
  | .lit e sz n cs => .lit e sz n (renL p cs)
  | .row e sz n f => .row e sz n f
  | .mp z g => .mp z g
  | .lp z g => .lp z g
def renO (p : Nat → Nat) : List (Nat × Own) → List (Nat × Own)
  | [] => []
  | (k, o) :: l => (p k, o.ren p) :: renO p l
def renE (p : Nat → Nat) : List (Nat × V) → List (Nat × V)
  | [] => []
  | (s, v) :: l => (s, v.ren p) :: renE p l
theorem renL_eq (p : Nat → Nat) (l : List V) : renL p l = l.map (V.ren p) := by
  induction l with
  | nil => rfl
  | cons v l ih => simp [renL, ih]
theorem renO_eq (p : Nat → Nat) (l : List (Nat × Own)) : renO p l = l.map fun q => (p q.1, q.2.ren p) := by
  induction l with
  | nil => rfl
  | cons v l ih => simp [renO, ih]
mutual
theorem V.ren_ren {p q : Nat → Nat} (h : ∀ k, p (q k) = k) : ∀ v : V, (v.ren q).ren p = v
  | .own k off => by simp [V.ren, h]
  | .osl k => by simp [V.ren, h]
  | .osub k sz lo n => by simp [V.ren, h]
  | .optr k sz i off => by simp [V.ren, h]
  | .fn f a b => by simp [V.ren, renL_ren h a, renL_ren h b]
  | .ifc t v => by simp [V.ren, V.ren_ren h v]
  | .ag cs => by simp [V.ren, renL_ren h cs]
  | .tup cs => by simp [V.ren, renL_ren h cs]
  | .gd c v => by simp [V.ren, V.ren_ren h v]
  | .un => rfl
  | .d x => rfl
  | .mem cs => rfl
theorem renL_ren {p q : Nat → Nat} (h : ∀ k, p (q k) = k) : ∀ l : List V, renL p (renL q l) = l
  | [] => rfl
  | v :: l => by simp [renL, V.ren_ren h v, renL_ren h l]
end
theorem RelV.ren {β β' : Names} {E : Nat → Prop} {w : World} {p : Nat → Nat} (hp : ∀ k v, β k = some v → β' (p k) = some v) {v : Value} {x : V} (h : RelV β E w v x) : RelV β' E w v (x.ren p) := by
  induction h with
  | un v => exact .un v
  | d v x h => exact .d v x h
  | mem cs b off g hcell hrel => exact .mem cs b off g hcell hrel
  | own k off b h => exact .own _ off b (hp _ _ h)
  | osl k v h h1 => exact .osl _ v (hp _ _ h) h1
  | osub k sz lo n b m c a h hn' ha => exact .osub _ sz lo n b m c a (hp _ _ h) hn' ha
  | osub0 k sz A h => exact .osub0 _ sz A (hp _ _ h)
  | optr k sz i off b m c h => exact .optr _ sz i off b m c (hp _ _ h)
  | fn f fi ca first cap h1 h2 _ _ ih1 ih2 =>
    simp only [V.ren, renL_eq]
    refine .fn f fi ca _ _ (by simpa using h1) (by simpa using h2) (fun j v x hv hx => ?_) (fun j v x hv hx => ?_)
    · rw [List.getElem?_map] at hx
      obtain ⟨y, hy, rfl⟩ := Option.map_eq_some_iff.1 hx
      exact ih1 j v y hv hy
    · rw [List.getElem?_map] at hx
      obtain ⟨y, hy, rfl⟩ := Option.map_eq_some_iff.1 hx
      exact ih2 j v y hv hy
  | ifc t v x _ ih => exact .ifc t v _ ih
  | ag arr cs h1 _ ih =>
    simp only [V.ren, renL_eq]
    refine .ag arr _ (by simpa using h1) fun j v x hv hx => ?_
    rw [List.getElem?_map] at hx
    obtain ⟨y, hy, rfl⟩ := Option.map_eq_some_iff.1 hx
    exact ih j v y hv hy
  | tup arr cs h1 _ ih =>
    simp only [V.ren, renL_eq]
    refine .tup arr _ (by simpa using h1) fun j v x hv hx => ?_
    rw [List.getElem?_map] at hx
    obtain ⟨y, hy, rfl⟩ := Option.map_eq_some_iff.1 hx
    exact ih j v y hv hy
  | gd c v x _ h' ih => exact .gd c v _ ih h'
theorem OwnOk.ren {β β' : Names} {E : Nat → Prop} {w : World} {p : Nat → Nat} (hp : ∀ k v, β k = some v → β' (p k) = some v) {k : Nat} {o : Own} (h : OwnOk β E w k o) : OwnOk β' E w (p k) (o.ren p) := by
  have hL : ∀ {arr : Array Value} {cs : List V}, (∀ (j : Nat) (v : Value) (x : V), arr[j]? = some v → cs[j]? = some x → RelV β E w v x) → ∀ (j : Nat) (v : Value) (x : V), arr[j]? = some v → (renL p cs)[j]? = some x → RelV β' E w v x := fun hr j v x hv hx => by
    rw [renL_eq, List.getElem?_map] at hx
    obtain ⟨y, hy, rfl⟩ := Option.map_eq_some_iff.1 hx
    exact (hr j v y hv hy).ren hp
  cases o with
  | fix cs =>
    obtain ⟨b, arr, e, h1, h2, h3, h4⟩ := h
    exact ⟨b, arr, e, hp _ _ h1, h2, by simpa [renL_eq] using h3, hL h4⟩
  | row e sz n f =>
    obtain ⟨v, xs, h1, h2, h3, h4⟩ := h
    exact ⟨v, xs, hp _ _ h1, h2, h3, h4⟩
  | lit e sz n cs =>
    obtain ⟨v, xs, h1, h2, h3, h4⟩ := h
    refine ⟨v, xs, hp _ _ h1, h2, by simpa [renL_eq] using h3, fun j u x hu hx => ?_⟩
    rw [renL_eq, List.getElem?_map] at hx
    obtain ⟨y, hy, rfl⟩ := Option.map_eq_some_iff.1 hx
    exact (h4 j u y hu hy).ren hp
  | mp z g =>
    obtain ⟨b, es, cl, h1, h2⟩ := h
    exact ⟨b, es, cl, hp _ _ h1, h2⟩
  | lp l r => exact ⟨hp _ _ h.1, h.2⟩
theorem RelV.unren {β : Names} {E : Nat → Prop} {w : World} {p : Nat → Nat} {v : Value} {y : V} (h : RelV β E w v y) : ∀ x : V, x.ren p = y → RelV (fun n => β (p n)) E w v x := by
  have hl : ∀ {l : List V} {ys : List V}, renL p l = ys → l.length = ys.length ∧ ∀ (j : Nat) (x : V), l[j]? = some x → ∃ y, ys[j]? = some y ∧ x.ren p = y := by
    intro l ys e
    rw [renL_eq] at e
    subst e
    exact ⟨by simp, fun j x hx => ⟨x.ren p, by simp [hx], rfl⟩⟩
  induction h with
  | un v =>
    intro x e
    cases x <;> simp [V.ren] at e
    exact .un v
  | d v d h =>
    intro x e
    cases x <;> simp [V.ren] at e
    subst e; exact .d v _ h
  | mem cs b off g hcell hrel =>
    intro x e
    cases x <;> simp [V.ren] at e
    subst e; exact .mem _ b off g hcell hrel
  | own k off b h =>
    intro x e
    cases x <;> simp [V.ren] at e
    obtain ⟨rfl, rfl⟩ := e
    exact .own _ _ b h
  | osl k v h h1 =>
    intro x e
    cases x <;> simp [V.ren] at e
    subst e; exact .osl _ v h h1
  | osub k sz lo n b m c a h hn ha =>
    intro x e
    cases x <;> simp [V.ren] at e
    obtain ⟨rfl, rfl, rfl, rfl⟩ := e
    exact .osub _ _ _ _ b m c a h hn ha
  | osub0 k sz A h =>
    intro x e
    cases x <;> simp [V.ren] at e
    obtain ⟨rfl, rfl, rfl, rfl⟩ := e
    exact .osub0 _ _ A h
  | optr k sz i off b m c h =>
    intro x e
    cases x <;> simp [V.ren] at e
    obtain ⟨rfl, rfl, rfl, rfl⟩ := e
    exact .optr _ _ _ _ b m c h
  | fn f fi ca first cap h1 h2 _ _ ih1 ih2 =>
    intro x e
    cases x <;> simp [V.ren] at e
    obtain ⟨rfl, e1, e2⟩ := e
    obtain ⟨l1, g1⟩ := hl e1
    obtain ⟨l2, g2⟩ := hl e2
    refine .fn _ fi ca _ _ (h1.trans l1.symm) (h2.trans l2.symm) (fun j v x hv hx => ?_) (fun j v x hv hx => ?_)
    · obtain ⟨y, hy, e⟩ := g1 j x hx; exact ih1 j v y hv hy x e
    · obtain ⟨y, hy, e⟩ := g2 j x hx; exact ih2 j v y hv hy x e
  | ifc t v x _ ih =>
    intro x e
    cases x <;> simp [V.ren] at e
    obtain ⟨rfl, e⟩ := e
    exact .ifc _ _ _ (ih _ e)
  | ag arr cs h1 _ ih =>
    intro x e
    cases x <;> simp [V.ren] at e
    obtain ⟨l1, g1⟩ := hl e
    refine .ag arr _ (h1.trans l1.symm) (fun j v x hv hx => ?_)
    obtain ⟨y, hy, e⟩ := g1 j x hx; exact ih j v y hv hy x e
  | tup arr cs h1 _ ih =>
    intro x e
    cases x <;> simp [V.ren] at e
    obtain ⟨l1, g1⟩ := hl e
    refine .tup arr _ (h1.trans l1.symm) (fun j v x hv hx => ?_)
    obtain ⟨y, hy, e⟩ := g1 j x hx; exact ih j v y hv hy x e
  | gd c v x _ h' ih =>
    intro x e
    cases x <;> simp [V.ren] at e
    obtain ⟨rfl, e⟩ := e
    exact .gd _ _ _ (fun hc => ih hc _ e) h'
theorem OwnOk.unren {β : Names} {E : Nat → Prop} {w : World} {p : Nat → Nat} {k : Nat} {o : Own} (h : OwnOk β E w (p k) (o.ren p)) : OwnOk (fun n => β (p n)) E w k o := by
  have hL : ∀ {arr : Array Value} {cs : List V}, (∀ (j : Nat) (v : Value) (x : V), arr[j]? = some v → (renL p cs)[j]? = some x → RelV β E w v x) → ∀ (j : Nat) (v : Value) (x : V), arr[j]? = some v → cs[j]? = some x → RelV (fun n => β (p n)) E w v x := fun hr j v x hv hx =>
    (hr j v (x.ren p) hv (by rw [renL_eq, List.getElem?_map, hx]; rfl)).unren x rfl
  cases o with
  | fix cs =>
    obtain ⟨b, arr, e, h1, h2, h3, h4⟩ := h
    exact ⟨b, arr, e, h1, h2, by simpa [renL_eq] using h3, hL h4⟩
  | row e sz n f => exact h
  | lit e sz n cs =>
    obtain ⟨v, xs, h1, h2, h3, h4⟩ := h
    exact ⟨v, xs, h1, h2, by simpa [renL_eq] using h3, fun j u x hu hx => (h4 j u (x.ren p) hu (by rw [renL_eq, List.getElem?_map, hx]; rfl)).unren x rfl⟩
  | mp z g => exact h
  | lp l r => exact h
theorem keys_renO (p : Nat → Nat) (l : List (Nat × Own)) : keysO (renO p l) = (keysO l).map p := by rw [renO_eq]; simp [keysO, Function.comp_def]
theorem mem_renO {p : Nat → Nat} {l : List (Nat × Own)} {k : Nat} {o : Own} : (k, o) ∈ renO p l ↔ ∃ k0 o0, (k0, o0) ∈ l ∧ k = p k0 ∧ o = o0.ren p := by
  rw [renO_eq, List.mem_map]
  constructor
  · rintro ⟨⟨k0, o0⟩, h1, h2⟩
    simp only [Prod.mk.injEq] at h2
    exact ⟨k0, o0, h1, h2.1.symm, h2.2.symm⟩
  · rintro ⟨k0, o0, h1, rfl, rfl⟩
    exact ⟨(k0, o0), h1, rfl⟩
theorem nodup_map_on {p : Nat → Nat} : ∀ {l : List Nat}, l.Nodup → (∀ a b, a ∈ l → b ∈ l → p a = p b → a = b) → (l.map p).Nodup
  | [], _, _ => by simp
  | x :: l, h, hi => by
    rw [List.nodup_cons] at h
    rw [List.map_cons, List.nodup_cons]
    refine ⟨fun hm => ?_, nodup_map_on h.2 fun a b ha hb => hi a b (List.mem_cons_of_mem _ ha) (List.mem_cons_of_mem _ hb)⟩
    obtain ⟨y, hy, e⟩ := List.mem_map.1 hm
    exact h.1 (hi y x (List.mem_cons_of_mem _ hy) List.mem_cons_self e ▸ hy)
theorem OwnsOk.ren {E0 : Nat → Prop} {β β' : Names} {w : World} {own : List (Nat × Own)} {p : Nat → Nat} (h : OwnsOk E0 β w own) (hn : ∀ n, n ∈ ownNames own → n ∈ keysO own) (hp : ∀ n, n ∈ keysO own → β' (p n) = β n)
    (hi : ∀ a b, a ∈ keysO own → b ∈ keysO own → p a = p b → a = b) : OwnsOk E0 β' w (renO p own) ∧ Eo E0 β' (renO p own) = Eo E0 β own := by
  have hblk : ∀ k, k ∈ keysO own → β'.blk (p k) = β.blk k := fun k hk => by simp only [Names.blk, hp k hk]
  have hE : Eo E0 β' (renO p own) = Eo E0 β own := by
    funext b; apply propext; unfold Eo; rw [keys_renO]
    constructor
    · rintro (h1 | ⟨k, h1, h2⟩)
      · exact .inl h1
      · obtain ⟨k0, h3, rfl⟩ := List.mem_map.1 h1
        exact .inr ⟨k0, h3, by rw [← hblk k0 h3]; exact h2⟩
    · rintro (h1 | ⟨k, h1, h2⟩)
      · exact .inl h1
      · exact .inr ⟨p k, List.mem_map.2 ⟨k, h1, rfl⟩, by rw [hblk k h1]; exact h2⟩
  refine ⟨⟨fun k o hk => ?_, ?_, fun k k' h1 h2 hne b h3 h4 => ?_, fun k h1 b h3 => ?_⟩, hE⟩
  · obtain ⟨k0, o0, h1, rfl, rfl⟩ := mem_renO.1 hk
    rw [hE]
    have h2 : OwnOk (fun n => if n ∈ keysO own then β n else none) (Eo E0 β own) w k0 o0 :=
      (h.ok k0 o0 h1).forget (Lasts.refl _ _) (if_pos (mem_keys h1)) (fun j hj => if_pos (hn j (ownNames_in h1 j hj))) (fun _ _ => rfl)
    exact h2.ren fun n v hv => by
      split at hv
      · rename_i h5; rw [hp n h5]; exact hv
      · cases hv
  · rw [keys_renO]
    exact nodup_map_on h.nodup hi
  · rw [keys_renO] at h1 h2
    obtain ⟨a, ha, rfl⟩ := List.mem_map.1 h1
    obtain ⟨a', ha', rfl⟩ := List.mem_map.1 h2
    rw [hblk a ha] at h3
    rw [hblk a' ha'] at h4
    exact h.apart a a' ha ha' (fun e => hne (by rw [e])) b h3 h4
  · rw [keys_renO] at h1
    obtain ⟨a, ha, rfl⟩ := List.mem_map.1 h1
    rw [hblk a ha] at h3
    exact h.lt a ha b h3
theorem OwnsOk.unren {E0 : Nat → Prop} {β : Names} {w : World} {own : List (Nat × Own)} {p : Nat → Nat} (h : OwnsOk E0 β w (renO p own)) (hnd : (keysO own).Nodup) (hi : ∀ a b, a ∈ keysO own → b ∈ keysO own → p a = p b → a = b) :
    OwnsOk E0 (fun n => β (p n)) w own ∧ Eo E0 (fun n => β (p n)) own = Eo E0 β (renO p own) := by
  have hE : Eo E0 (fun n => β (p n)) own = Eo E0 β (renO p own) := by
    funext b; apply propext; unfold Eo; rw [keys_renO]
    constructor
    · rintro (h1 | ⟨k, h1, h2⟩)
      · exact .inl h1
      · exact .inr ⟨p k, List.mem_map.2 ⟨k, h1, rfl⟩, h2⟩
    · rintro (h1 | ⟨k, h1, h2⟩)
      · exact .inl h1
      · obtain ⟨k0, h3, rfl⟩ := List.mem_map.1 h1
        exact .inr ⟨k0, h3, h2⟩
  refine ⟨⟨fun k o hk => ?_, hnd, fun k k' h1 h2 hne b h3 h4 => ?_, fun k h1 b h3 => ?_⟩, hE⟩
  · rw [hE]
    exact OwnOk.unren (h.ok (p k) (o.ren p) (mem_renO.2 ⟨k, o, hk, rfl, rfl⟩))
  · exact h.apart (p k) (p k') (by rw [keys_renO]; exact List.mem_map.2 ⟨k, h1, rfl⟩) (by rw [keys_renO]; exact List.mem_map.2 ⟨k', h2, rfl⟩) (fun e => hne (hi k k' h1 h2 e)) b h3 h4
  · exact h.lt (p k) (by rw [keys_renO]; exact List.mem_map.2 ⟨k, h1, rfl⟩) b h3
theorem cell_putObj {w : World} {b : Nat} {ob ob' : Obj} (hb : w.heap[b]? = some ob) (hnc : ∀ cs e s, ob ≠ .cells cs e s) {a : Addr} {v : Value} (h : w.cell? a = some v) : a.block ≠ b ∧ (w.putObj b ob').cell? a = some v := by
  have hne : a.block ≠ b := fun e => by
    unfold World.cell? at h
    rw [e, hb] at h
    cases ob with
    | cells cs e s => exact hnc cs e s rfl
    | _ => simp at h
  exact ⟨hne, (World.cell?_of_block (World.putObj_heap_other hne)).trans h⟩
theorem lastsC_putObj {E : Nat → Prop} {w : World} {b : Nat} {ob : Obj} (ob' : Obj) (hb : w.heap[b]? = some ob) (hnc : ∀ cs e s, ob ≠ .cells cs e s) : LastsC E E w (w.putObj b ob') :=
  fun _ _ hE hc => ⟨hE, (cell_putObj hb hnc hc).2⟩
theorem keeps_putObj {L : Nat → Prop} (w : World) (b : Nat) (ob : Obj) (hL : L b) : Keeps L w (w.putObj b ob) :=
  ⟨rfl, rfl, rfl, by simp, fun i _ hl => World.putObj_heap_other (fun e => hl (e ▸ hL))⟩
theorem OwnsOk.turn {E0 : Nat → Prop} {β : Names} {w : World} {own : List (Nat × Own)} (h : OwnsOk E0 β w own) {b : Nat} {ob : Obj} (ob' : Obj) (hb : w.heap[b]? = some ob) (hnc : ∀ cs e s, ob ≠ .cells cs e s) (hno : ∀ k, k ∈ keysO own → β.blk k ≠ some b) : OwnsOk E0 β (w.putObj b ob') own :=
  ⟨fun k o hk => (h.ok k o hk).lastsC (lastsC_putObj ob' hb hnc) (Names.le.refl β) (fun i hi => World.putObj_heap_other (fun e => hno k (mem_keys hk) (e ▸ hi))), h.nodup, h.apart, fun k hk i hi => by
    have := h.lt k hk i hi
    exact ⟨by simpa using this.1, this.2⟩⟩
theorem Holds.turn {c : Ctx} {β : Names} {st : St} {a : Act} {w : World} (H : Holds c β st a w) {b : Nat} {ob : Obj} (ob' : Obj) (hb : w.heap[b]? = some ob) (hnc : ∀ cs e s, ob ≠ .cells cs e s) (hno : ∀ k, k ∈ keysO st.own → β.blk k ≠ some b) (hw : c.w0.heap.size ≤ b) {l : List Deferred}
    (hm : MarksOk c.rd c.w0 (w.putObj b ob') l) : Holds c β st { a with defers := l } (w.putObj b ob') := by
  refine ⟨H.sz, hm, fun s => (H.env s).lastsC' (lastsC_putObj ob' hb hnc) (Names.le.refl β), H.own.turn ob' hb hnc hno, H.fr, H.kn, H.nm, ?_, H.fx⟩
  exact ⟨H.kp.os, H.kp.tape, H.kp.output, by simpa using H.kp.size, fun i hi hl => (World.putObj_heap_other (by omega)).trans (H.kp.block i hi hl)⟩
theorem own_not_deferred {c : Ctx} {β : Names} {st : St} {a : Act} {w : World} (H : Holds c β st a w) {b : Nat} {ds : Option (List Deferred)} (hb : w.heap[b]? = some (Obj.deferred ds)) : ∀ k, k ∈ keysO st.own → β.blk k ≠ some b := fun k hk e => by
  obtain ⟨o, ho⟩ := keys_mem hk
  exact (H.own.ok k o ho).obj e hb
theorem leaves_marks {c : Ctx} {fn : Func} {R : Ending → World → Prop} : ∀ (l : List Deferred) {β : Names} {st : St} {a : Act} {w : World}, a.defers = l → Holds c β st a w →
    (∀ (a' : Act) (w' : World), a'.tmps = a.tmps → Holds c β st a' w' → ∃ v, (results fn a'.tmps).run c.P w' = .ok v w' ∧ R (.returned v) w') → LeavesInM Fence.wide 0 c.P fn a.tmps R l .returning w
  | [], β, st, a, w, _, H, h => h a w rfl H
  | d :: l, β, st, a, w, e, H, h => by
    have hdf := H.df
    rw [e] at hdf
    obtain ⟨b, rfl, h1, h2⟩ := hdf.ok d (by simp)
    have hnd := hdf.nodup
    simp only [List.map_cons, List.nodup_cons] at hnd
    refine ⟨by simp, .inl ⟨b, w.putObj b (Obj.deferred none), rfl, run_takeDeferred h2, ?_⟩⟩
    have hm : MarksOk c.rd c.w0 (w.putObj b (Obj.deferred none)) l := ⟨fun d' hd' => by
      obtain ⟨b', g1, g2, g3⟩ := hdf.ok d' (by simp [hd'])
      refine ⟨b', g1, g2, (World.putObj_heap_other fun e => ?_).trans g3⟩
      subst e
      exact hnd.1 (List.mem_map.2 ⟨d', hd', by rw [g1]⟩), hnd.2, fun h => by have := hdf.rd0 h; cases this⟩
    have H' := H.turn (Obj.deferred none) h2 (fun _ _ _ => by simp) (own_not_deferred H h2) h1 hm
    exact leaves_marks l (a := { a with defers := l }) rfl H' (fun a' w' ha H'' => h a' w' ha H'')
def pk (fx : List Nat) (k n : Nat) : Nat := if n ∈ fx then 1000000 + 2 * n else 1000001 + 2 * ((k + n) * (k + n) + n)
theorem sq_add_inj {a b n m : Nat} (hn : n ≤ a) (hm : m ≤ b) (h : a * a + n = b * b + m) : a = b ∧ n = m := by
  rcases Nat.lt_trichotomy a b with h1 | h1 | h1
  · have : (a + 1) * (a + 1) ≤ b * b := Nat.mul_le_mul h1 h1
    have h2 : (a + 1) * (a + 1) = a * a + 2 * a + 1 := by simp only [Nat.add_mul, Nat.mul_add]; omega
    omega
  · subst h1; exact ⟨rfl, by omega⟩
  · have : (b + 1) * (b + 1) ≤ a * a := Nat.mul_le_mul h1 h1
    have h2 : (b + 1) * (b + 1) = b * b + 2 * b + 1 := by simp only [Nat.add_mul, Nat.mul_add]; omega
    omega
theorem pk_ge (fx : List Nat) (k n : Nat) : 1000000 ≤ pk fx k n := by unfold pk; split <;> omega
theorem pk_fx {fx : List Nat} {n : Nat} (h : n ∈ fx) (k : Nat) : pk fx k n = 1000000 + 2 * n := by unfold pk; rw [if_pos h]
theorem pk_eq {fx : List Nat} {k k' n m : Nat} (h : pk fx k n = pk fx k' m) : n = m ∧ (n ∈ fx ∨ k = k') := by
  unfold pk at h
  split at h <;> split at h
  · rename_i h1 h2; exact ⟨by omega, .inl h1⟩
  · omega
  · omega
  · have h3 : (k + n) * (k + n) + n = (k' + m) * (k' + m) + m := by omega
    obtain ⟨h4, h5⟩ := sq_add_inj (by omega) (by omega) h3
    exact ⟨h5, .inr (by omega)⟩
def YAt (P : Program) (l : Nat) (EI LI : Nat → Prop) (wI : World) (βI : Names) (fx : List Nat) (args : List V) (ins outs : List (Nat × Own)) (go : Bool) : Prop :=
  ∀ (E0 : Nat → Prop) (β : Names) (w : World) (vals : Array Value), (∀ b, E0 b → b < w.heap.size) → (∀ b, EI b → E0 b) → (∀ b, E0 b → b < wI.heap.size → EI b ∨ LI b) → Keeps LI wI w →
    (∀ k, k ∈ keysO ins → ∀ b, β.blk k = some b → wI.heap.size ≤ b ∨ LI b) → (∀ n, n ∈ fx → β n = βI n) → vals.size = args.length →
    (∀ (j : Nat) (v : Value) (x : V), vals[j]? = some v → args[j]? = some x → RelV β (Eo E0 β ins) w v x) → OwnsOk E0 β w ins →
    ∃ fn tmps asg body, (Instr.yield l vals).run P w = .ok (.round l fn tmps asg body) w ∧ RoundIn Fence.wide 0 P l fn tmps asg body w fun e w' =>
      ∃ β', e = .returned (.bool go) ∧ (∀ n, n ∈ fx → β' n = β n) ∧ OwnsOk E0 β' w' outs ∧ Keeps (ownB β ins) w w' ∧ (∀ k, k ∈ keysO outs → ∀ b, β'.blk k = some b → w.heap.size ≤ b ∨ ownB β ins b)
structure CliO (fx : List Nat) (O : Nat → List (Nat × Own)) : Prop where
  nodup : ∀ k, (keysO (O k)).Nodup
  names : ∀ k n, n ∈ ownNames (O k) → n ∈ keysO (O k)
  fx : ∀ k n, n ∈ fx → n ∈ keysO (O k)
def goAt (T : Nat) (stop : Bool) (k : Nat) : Bool := decide (k + 1 < T) || !stop
def IterC (P : Program) (gf : FuncId) (caps : List V) (args : Nat → List V) (n : Nat) : Prop :=
  okF P gf = true ∧ ∀ (l : Nat) (EI LI : Nat → Prop) (wI : World) (βI : Names) (fx : List Nat) (T : Nat) (stop : Bool) (O : Nat → List (Nat × Own)) (vals : Array Value), CliO fx O →
    (stop = false → T = n) → (stop = true → 0 < T ∧ T ≤ n) → (∀ b, EI b → b < wI.heap.size) → LI = ownB βI (O 0) → OwnsOk EI βI wI (O 0) → vals.size = caps.length →
    (∀ (j : Nat) (v : Value) (x : V), vals[j]? = some v → caps[j]? = some x → RelV βI (Eo EI βI (O 0)) wI v x) →
    (∀ k, k < T → YAt P l EI LI wI βI fx (args k) (O k) (O (k + 1)) (goAt T stop k)) →
    Calls P gf (#[.func (.yield l) #[] #[]] ++ vals) wI fun e w' => ∃ v β', e = .returned v ∧ (∀ n, n ∈ fx → β' n = βI n) ∧ OwnsOk EI β' w' (O T) ∧ Keeps LI wI w' ∧ (∀ k, k ∈ keysO (O T) → ∀ b, β'.blk k = some b → wI.heap.size ≤ b ∨ LI b)
def YR (c : Ctx) (l : Nat) (args : List V) (Z Z' : List (Nat × Own)) (go : Bool) : Prop :=
  ∀ (d : Option Nat) (x : X) (xs : List X) (st : St), evV st x = .fn (.yield l) [] [] → evS true st x → evVs st xs = args → evSs true st xs → (∀ k o, (k, o) ∈ Z → own? st.own k = some o) →
    Valid c ⟨d, none, .callv x xs⟩ st { val := .d (.bool go), upd := callU Z Z', rd := keysO Z, new := (keysO Z').filter fun n => !(keysO Z).contains n }
theorem yr_ok {c : Ctx} {l : Nat} {βI : Names} {fx : List Nat} {args : List V} {O : Nat → List (Nat × Own)} {k : Nat} {go : Bool} (hfn : ∀ n, n ∈ fx → pk fx 0 n ∈ c.fn ∧ c.fx (pk fx 0 n) = βI n) (hcl : CliO fx O)
    (hY : YAt c.P l c.E0 c.L c.w0 βI fx args (O k) (O (k + 1)) go) (hna : namesL args = []) : YR c l args (renO (pk fx k) (O k)) (renO (pk fx (k + 1)) (O (k + 1))) go := by
  intro d x xs st hx hsx hargs hs hin st1 h1 h2 h3 ops o hc β a w H Q K hK
  have hcg := hc.gd
  have hg : o.guard = none := by
    cases hg : o.guard with
    | none => rfl
    | some jw => simp only [hg] at hcg; obtain ⟨s, _, h⟩ := hcg; cases h
  rw [if_pos (by simp [Region.wanted, hg])]
  have hsl : ∀ k, k ∈ xsSlots xs → get st1.env k = get st.env k := fun k hk => h1 k (by simp [I.slots, Go.Bx.O.slots, hk])
  have hslx : ∀ k, k ∈ x.slots → get st1.env k = get st.env k := fun k hk => h1 k (by simp [I.slots, Go.Bx.O.slots, hk])
  have e1 := evVs_congr hsl
  have e2 := evSs_congr (p := true) hsl
  obtain ⟨cl, hcl', hcc⟩ := cOp_call hc.op rfl (by simp)
  obtain ⟨ox, h4, hox, h5⟩ := cCall_val hcc
  obtain ⟨q1, q2⟩ := evVs_ok H h5 (by rw [e2]; exact hs)
  rw [e1, hargs] at q1 q2
  have hv0 := evV_ok H hox (by rw [evS_congr hslx]; exact hsx)
  rw [evV_congr hslx, hx] at hv0
  have hu : a.eval ox = .func (.yield l) #[] #[] := by
    generalize a.eval ox = u at *
    cases hv0 with
    | fn _ fi ca _ _ g1 g2 r1 r2 => rw [Array.eq_empty_of_size_eq_zero g1, Array.eq_empty_of_size_eq_zero g2]
  have hin1 : ∀ m o, (m, o) ∈ renO (pk fx k) (O k) → own? st1.own m = some o := fun m o h => by rw [h2 m (mem_keys h)]; exact hin m o h
  have hE := call_E0 (c := c) (β := β) hin1
  have hkey : ∀ m, m ∈ keysO (renO (pk fx k) (O k)) → m ∈ keysO st1.own := fun m h => by
    obtain ⟨o, ho⟩ := keys_mem h
    exact mem_keys (own?_mem (hin1 m o ho))
  have hpk : ∀ (k k' n m : Nat), n ∈ keysO (O k) → m ∈ keysO (O k) → pk fx k' n = pk fx k' m → n = m := fun _ _ _ _ _ _ e => (pk_eq e).1
  have hmk : ∀ {n k : Nat}, n ∈ keysO (O k) → pk fx k n ∈ keysO (renO (pk fx k) (O k)) := fun {n k} h => by rw [keys_renO]; exact List.mem_map.2 ⟨n, h, rfl⟩
  have hins : OwnsOk (fun b => c.E0 b ∨ ∃ m, m ∈ keysO st1.own ∧ m ∉ keysO (renO (pk fx k) (O k)) ∧ β.blk m = some b) β w (renO (pk fx k) (O k)) := by
    refine ⟨fun m o h => ?_, ?_, fun m m' h1 h2 => H.own.apart m m' (hkey m h1) (hkey m' h2), fun m h b hb => ?_⟩
    · rw [hE]; exact H.own.ok m o (own?_mem (hin1 m o h))
    · rw [keys_renO]; exact nodup_map_on (hcl.nodup k) (hpk k k)
    · obtain ⟨x, y⟩ := H.own.lt m (hkey m h) b hb
      refine ⟨x, ?_⟩
      rintro (h1 | ⟨m', h1, h2, h3⟩)
      · exact y h1
      · exact H.own.apart m m' (hkey m h) h1 (fun e => h2 (e ▸ h)) b hb h3
  obtain ⟨hins', hE'⟩ := hins.unren (hcl.nodup k) (hpk k k)
  have hfx : ∀ n, n ∈ fx → β (pk fx k n) = βI n := fun n hn => by
    rw [pk_fx hn k, ← pk_fx hn 0, (H.fx _ (hfn n hn).1).2, (hfn n hn).2]
  obtain ⟨fn, tmps, asg, body, hy, hR⟩ := hY _ (fun n => β (pk fx k n)) w (cl.args.map a.eval) (by
      rintro b (h | ⟨m, h1, _, h3⟩)
      · have := c.hE b h
        have := H.kp.size
        omega
      · exact (H.own.lt m h1 b h3).1) (fun b hb => .inl hb) (by
      rintro b (h | ⟨m, h1, _, h3⟩) hb
      · exact .inl h
      · exact .inr ((H.fr m h1 b h3).resolve_left (by omega))) H.kp (fun n hn b hb => H.fr _ (hkey _ (hmk hn)) b hb) hfx (by simpa using q1) (fun j v y hv hy => by
      rw [hE', hE]
      refine (q2 j v y (by simpa using hv) hy).lasts (Lasts.refl _ _) fun m hm => ?_
      have := names_mem hy m hm
      rw [hna] at this; cases this) hins'
  have hrun : (execOp a.eval o).run c.P w = .ok (.round l fn tmps asg body) w := by
    have hyy : (Instr.yield l (#[] ++ cl.args.map a.eval ++ #[])).run c.P w = .ok (.round l fn tmps asg body) w := by simpa using hy
    simp only [execOp, hcl', resolve, h4, hu, Deferred.ofValue, invoke, Sem.run_bind, Sem.run_pure, Result.andThen_ok]
    exact hyy
  refine Oper.wpc_ok hrun (fun d => by simp) ⟨fun h => by simp [Ctx.F, Fence.wide] at h, hR.mono ?_⟩
  rintro e w' ⟨β', rfl, g1, g2, g3, g4⟩
  let β2 : Names := fun m => open Classical in if h : ∃ n, n ∈ keysO (O (k + 1)) ∧ n ∉ fx ∧ pk fx (k + 1) n = m then β' (Classical.choose h) else β m
  have hβp : ∀ n, n ∈ keysO (O (k + 1)) → β2 (pk fx (k + 1) n) = β' n := fun n hn => by
    by_cases hf : n ∈ fx
    · have hno : ¬ ∃ n', n' ∈ keysO (O (k + 1)) ∧ n' ∉ fx ∧ pk fx (k + 1) n' = pk fx (k + 1) n := by
        rintro ⟨n', _, h5, h6⟩
        exact h5 ((pk_eq h6).1 ▸ hf)
      simp only [β2, dif_neg hno]
      rw [g1 n hf, pk_fx hf, pk_fx hf]
    · have hyes : ∃ n', n' ∈ keysO (O (k + 1)) ∧ n' ∉ fx ∧ pk fx (k + 1) n' = pk fx (k + 1) n := ⟨n, hn, hf, rfl⟩
      simp only [β2, dif_pos hyes]
      rw [(pk_eq (Classical.choose_spec hyes).2.2).1]
  have hnew : ∀ m, (∃ n, n ∈ keysO (O (k + 1)) ∧ n ∉ fx ∧ pk fx (k + 1) n = m) → m ∈ (keysO (renO (pk fx (k + 1)) (O (k + 1)))).filter fun n => !(keysO (renO (pk fx k) (O k))).contains n := by
    rintro m ⟨n, h5, h6, rfl⟩
    refine List.mem_filter.2 ⟨hmk h5, ?_⟩
    simp only [Bool.not_eq_true', List.contains_eq_mem, decide_eq_false_iff_not]
    rw [keys_renO]
    intro h7
    obtain ⟨n', _, h8⟩ := List.mem_map.1 h7
    rcases (pk_eq h8).2 with h9 | h9
    · exact h6 ((pk_eq h8).1 ▸ h9)
    · omega
  have hle : β.le β2 := fun m v hv => by
    by_cases h : ∃ n, n ∈ keysO (O (k + 1)) ∧ n ∉ fx ∧ pk fx (k + 1) n = m
    · rw [H.nm m (h3 m (hnew m h))] at hv; cases hv
    · simp only [β2, dif_neg h]; exact hv
  have hfr : ∀ m, m ∉ ((keysO (renO (pk fx (k + 1)) (O (k + 1)))).filter fun n => !(keysO (renO (pk fx k) (O k))).contains n) → β2 m = β m := fun m hm => by
    have h : ¬ ∃ n, n ∈ keysO (O (k + 1)) ∧ n ∉ fx ∧ pk fx (k + 1) n = m := fun h => hm (hnew m h)
    simp only [β2, dif_neg h]
  obtain ⟨g2', -⟩ := g2.ren (hcl.names (k + 1)) hβp (hpk (k + 1) (k + 1))
  obtain ⟨H', -⟩ := call_state H hin1 h3 (fun m hm => (List.mem_filter.1 hm).1) hle hfr g2' (g3.mono fun b ⟨n, h5, h6⟩ => ⟨_, hmk h5, h6⟩) (fun m hm b hb => by
    rw [keys_renO] at hm
    obtain ⟨n, h5, rfl⟩ := List.mem_map.1 hm
    have : β'.blk n = some b := by simp only [Names.blk, ← hβp n h5]; exact hb
    exact (g4 n h5 b this).imp id fun ⟨n', h6, h7⟩ => ⟨_, hmk h6, h7⟩)
  refine hK β2 _ w' ?_
  have hd := hc.dst
  simp only at hd
  rw [hd]
  simp only [St.stp]
  cases d with
  | none => exact H'
  | some d => exact H'.setV (hc.lt d rfl) (mk_bool go)
end Go.Bx
end
section
set_option linter.unusedSimpArgs false
set_option linter.unusedVariables false
namespace Go.Bx
open Go.RowKit
mutual
theorem V.names_ren (p : Nat → Nat) : ∀ v : V, (v.ren p).names = v.names.map p
  | .own k off => by simp [V.ren, V.names]
  | .osl k => by simp [V.ren, V.names]
  | .osub k sz lo n => by simp [V.ren, V.names]
  | .optr k sz i off => by simp [V.ren, V.names]
  | .fn f a b => by simp [V.ren, V.names, namesL_ren p a, namesL_ren p b]
  | .ifc t v => by simp [V.ren, V.names, V.names_ren p v]
  | .ag cs => by simp [V.ren, V.names, namesL_ren p cs]
  | .tup cs => by simp [V.ren, V.names, namesL_ren p cs]
  | .gd c v => by simp [V.ren, V.names, V.names_ren p v]
  | .un => rfl
  | .d x => rfl
  | .mem cs => rfl
theorem namesL_ren (p : Nat → Nat) : ∀ l : List V, namesL (renL p l) = (namesL l).map p
  | [] => rfl
  | v :: l => by simp [renL, namesL, V.names_ren p v, namesL_ren p l]
end
theorem ownNames_ren (p : Nat → Nat) : ∀ l : List (Nat × Own), ownNames (renO p l) = (ownNames l).map p
  | [] => rfl
  | (k, .fix cs) :: l => by simp [renO, Own.ren, ownNames, namesL_ren, ownNames_ren p l]
  | (k, .lit e sz n cs) :: l => by simp [renO, Own.ren, ownNames, namesL_ren, ownNames_ren p l]
  | (k, .row e sz n f) :: l => by simp [renO, Own.ren, ownNames, ownNames_ren p l]
  | (k, .mp z g) :: l => by simp [renO, Own.ren, ownNames, ownNames_ren p l]
  | (k, .lp b r) :: l => by simp [renO, Own.ren, ownNames, ownNames_ren p l]
theorem OwnsOk.restrict {E0 : Nat → Prop} {β β' : Names} {w : World} {own : List (Nat × Own)} (h : OwnsOk E0 β w own) (hn : ∀ n, n ∈ ownNames own → n ∈ keysO own) (hp : ∀ n, n ∈ keysO own → β' n = β n) :
    OwnsOk E0 β' w own ∧ Eo E0 β' own = Eo E0 β own := by
  have hblk : ∀ k, k ∈ keysO own → β'.blk k = β.blk k := fun k hk => by simp only [Names.blk, hp k hk]
  have hE : Eo E0 β' own = Eo E0 β own := by
    funext b; apply propext; unfold Eo
    constructor
    · rintro (h1 | ⟨k, h1, h2⟩)
      · exact .inl h1
      · exact .inr ⟨k, h1, by rw [← hblk k h1]; exact h2⟩
    · rintro (h1 | ⟨k, h1, h2⟩)
      · exact .inl h1
      · exact .inr ⟨k, h1, by rw [hblk k h1]; exact h2⟩
  refine ⟨⟨fun k o hk => ?_, h.nodup, fun k k' h1 h2 hne b h3 h4 => ?_, fun k h1 b h3 => ?_⟩, hE⟩
  · rw [hE]
    exact (h.ok k o hk).forget (Lasts.refl _ _) (hp k (mem_keys hk)) (fun j hj => hp j (hn j (ownNames_in hk j hj))) (fun _ _ => rfl)
  · rw [hblk k h1] at h3
    rw [hblk k' h2] at h4
    exact h.apart k k' h1 h2 hne b h3 h4
  · rw [hblk k h1] at h3
    exact h.lt k h1 b h3
theorem Eo.grow {E0 E0' : Nat → Prop} {β : Names} {w w' : World} {own : List (Nat × Own)} (hk : Keeps (fun _ => False) w w') (hE : ∀ b, b < w.heap.size → E0' b → E0 b) : Lasts (Eo E0 β own) (Eo E0' β own) w w' := fun b hb h1 =>
  ⟨fun h => h1 (h.imp (hE b hb) id), hk.block b hb (fun h => h)⟩
theorem OwnsOk.grow {E0 E0' : Nat → Prop} {β : Names} {w w' : World} {own : List (Nat × Own)} (h : OwnsOk E0 β w own) (hk : Keeps (fun _ => False) w w') (hE : ∀ b, b < w.heap.size → E0' b → E0 b) : OwnsOk E0' β w' own :=
  ⟨fun k o ho => (h.ok k o ho).lasts (Eo.grow hk hE) (Names.le.refl β) (fun b hb => hk.block b (h.lt k (mem_keys ho) b hb).1 (fun h => h)), h.nodup, h.apart, fun k hk' b hb => by
    obtain ⟨h1, h2⟩ := h.lt k hk' b hb
    exact ⟨Nat.lt_of_lt_of_le h1 hk.size, fun h3 => h2 (hE b h1 h3)⟩⟩
theorem Eo_lp {E0 : Nat → Prop} {β : Names} {k l : Nat} {r : Loop} {own : List (Nat × Own)} (hb : β k = some (.pointer (some ⟨l, 0, none⟩))) : Eo E0 β ((k, .lp l r) :: own) = Eo (fun b => E0 b ∨ b = l) β own := by
  have hbl : β.blk k = some l := by simp [Names.blk, hb, blkOf]
  funext b; apply propext; unfold Eo
  simp only [keysO, List.map_cons, List.mem_cons]
  constructor
  · rintro (h | ⟨k', rfl | h1, h2⟩)
    · exact .inl (.inl h)
    · rw [hbl] at h2; exact .inl (.inr (Option.some.inj h2).symm)
    · exact .inr ⟨k', h1, h2⟩
  · rintro ((h | rfl) | ⟨k', h1, h2⟩)
    · exact .inl h
    · exact .inr ⟨k, .inl rfl, hbl⟩
    · exact .inr ⟨k', .inr h1, h2⟩
theorem OwnsOk.lpIn {E0 : Nat → Prop} {β : Names} {w : World} {k l : Nat} {r : Loop} {own : List (Nat × Own)} (h : OwnsOk (fun b => E0 b ∨ b = l) β w own) (hb : β k = some (.pointer (some ⟨l, 0, none⟩))) (hl : w.heap[l]? = some (.loop r)) (hk : k ∉ keysO own) (hE : ¬ E0 l) :
    OwnsOk E0 β w ((k, .lp l r) :: own) := by
  have hbl : β.blk k = some l := by simp [Names.blk, hb, blkOf]
  refine ⟨fun k' o h1 => ?_, (List.nodup_cons.2 ⟨hk, h.nodup⟩ : (k :: keysO own).Nodup), fun k1 k2 h1 h2 hne b hb1 hb2 => ?_, fun k1 h1 b hb1 => ?_⟩
  · rcases List.mem_cons.1 h1 with h1 | h1
    · cases h1; exact ⟨hb, hl⟩
    · rw [Eo_lp hb]; exact h.ok k' o h1
  · simp only [keysO, List.map_cons, List.mem_cons] at h1 h2
    rcases h1 with rfl | h1 <;> rcases h2 with rfl | h2
    · exact hne rfl
    · rw [hbl] at hb1; cases hb1
      exact (h.lt k2 h2 l hb2).2 (.inr rfl)
    · rw [hbl] at hb2; cases hb2
      exact (h.lt k1 h1 l hb1).2 (.inr rfl)
    · exact h.apart k1 k2 h1 h2 hne b hb1 hb2
  · simp only [keysO, List.map_cons, List.mem_cons] at h1
    rcases h1 with rfl | h1
    · rw [hbl] at hb1; cases hb1
      exact ⟨(Array.getElem?_eq_some_iff.1 hl).1, hE⟩
    · obtain ⟨h2, h3⟩ := h.lt k1 h1 b hb1
      exact ⟨h2, fun h4 => h3 (.inl h4)⟩
theorem OwnsOk.lpOut {E0 : Nat → Prop} {β : Names} {w : World} {k l : Nat} {r : Loop} {own : List (Nat × Own)} (h : OwnsOk E0 β w ((k, .lp l r) :: own)) :
    (β k = some (.pointer (some ⟨l, 0, none⟩)) ∧ w.heap[l]? = some (.loop r)) ∧ ¬ E0 l ∧ OwnsOk (fun b => E0 b ∨ b = l) β w own := by
  have hlp : OwnOk β (Eo E0 β ((k, .lp l r) :: own)) w k (.lp l r) := h.ok k _ List.mem_cons_self
  have hbl : β.blk k = some l := by simp [Names.blk, hlp.1, blkOf]
  have hnd := h.nodup
  simp only [keysO, List.map_cons, List.nodup_cons] at hnd
  have hkk : ∀ k', k' ∈ keysO own → k' ∈ keysO ((k, .lp l r) :: own) := fun k' hk => by simp [keysO] at hk ⊢; exact .inr hk
  refine ⟨hlp, (h.lt k (by simp [keysO]) l hbl).2, ⟨fun k' o h1 => ?_, hnd.2, fun k1 k2 h1 h2 => h.apart k1 k2 (hkk k1 h1) (hkk k2 h2), fun k1 h1 b hb1 => ?_⟩⟩
  · rw [← Eo_lp hlp.1]; exact h.ok k' o (List.mem_cons_of_mem _ h1)
  · obtain ⟨h2, h3⟩ := h.lt k1 (hkk k1 h1) b hb1
    refine ⟨h2, ?_⟩
    rintro (h4 | rfl)
    · exact h3 h4
    · exact h.apart k1 k (hkk k1 h1) (by simp [keysO]) (fun e => hnd.1 (e ▸ h1)) b hb1 hbl
def setPs : List Nat → List V → List (Nat × V) → List (Nat × V)
  | p :: ps, v :: vs, e => setPs ps vs ((p, v) :: e)
  | _, _, e => e
theorem setPs_rel {β : Names} {E : Nat → Prop} {w : World} : ∀ (ps : List Nat) (vals : List Value) (args : List V) (env : List (Nat × V)) (tmps : Array Value), ps.length = vals.length → vals.length = args.length → (∀ p, p ∈ ps → p < tmps.size) →
    (∀ (j : Nat) (v : Value) (x : V), vals[j]? = some v → args[j]? = some x → RelV β E w v x) → (∀ s, RelV β E w (tmps.getD s undef) (get env s)) →
    ((ps.zip vals).foldl (fun t (p, v) => t.setIfInBounds p v) tmps).size = tmps.size ∧ ∀ s, RelV β E w (((ps.zip vals).foldl (fun t (p, v) => t.setIfInBounds p v) tmps).getD s undef) (get (setPs ps args env) s)
  | [], _, args, env, tmps, _, _, _, _, h => by cases args <;> exact ⟨rfl, h⟩
  | p :: ps, [], args, env, tmps, h1, _, _, _, _ => by simp at h1
  | p :: ps, v :: vals, [], env, tmps, _, h2, _, _, _ => by simp at h2
  | p :: ps, v :: vals, x :: args, env, tmps, h1, h2, h3, h4, h5 => by
    have hp : p < tmps.size := h3 p (by simp)
    obtain ⟨q1, q2⟩ := setPs_rel ps vals args ((p, x) :: env) (tmps.setIfInBounds p v) (by simpa using h1) (by simpa using h2) (fun q hq => by simpa using h3 q (by simp [hq])) (fun j u y hu hy => h4 (j + 1) u y (by simpa using hu) (by simpa using hy)) (fun s => by
      have : (tmps.setIfInBounds p v).getD s undef = if p = s then v else tmps.getD s undef := by
        simp only [Array.getD_eq_getD_getElem?, Array.getElem?_setIfInBounds]
        split
        · rename_i h; subst h; simp
        · rfl
      rw [this]
      simp only [get]
      split
      · exact h4 0 v x rfl rfl
      · exact h5 s)
    simp only [List.zip_cons_cons, List.foldl_cons, setPs]
    exact ⟨by rw [q1]; simp, q2⟩
def pendOf : Exit → Option Code
  | .ret => some .ret
  | .exit id => some (.exit id)
  | .goto t => some (.goto t)
  | _ => none
def cliX (l : Nat) (rc : Nat → Loop) (O : Nat → List (Nat × Own)) (k : Nat) : List (Nat × Own) := (0, .lp l (rc k)) :: renO Nat.succ (O k)
def liftN (l : Nat) (β : Names) : Names
  | 0 => some (.pointer (some ⟨l, 0, none⟩))
  | n + 1 => β n
def lowN (own : List (Nat × Own)) (β : Names) : Names := fun n => if n ∈ keysO own then β (n + 1) else none
def raiseN (l : Nat) (own : List (Nat × Own)) (β : Names) : Names := liftN l fun n => if n ∈ keysO own then β n else none
theorem keys_cliX {l : Nat} {rc : Nat → Loop} {O : Nat → List (Nat × Own)} {k : Nat} : keysO (cliX l rc O k) = 0 :: (keysO (O k)).map Nat.succ := by
  unfold cliX
  rw [← keys_renO]; rfl
theorem cli_up {l : Nat} {rc : Nat → Loop} {NF : List Nat} {O : Nat → List (Nat × Own)} (h : CliO NF O) : CliO (0 :: NF.map Nat.succ) (cliX l rc O) := by
  refine ⟨fun k => ?_, fun k n hn => ?_, fun k n hn => ?_⟩
  · rw [keys_cliX, List.nodup_cons]
    exact ⟨by simp, nodup_map_on (h.nodup k) fun a b _ _ e => Nat.succ.inj e⟩
  · rw [keys_cliX]
    unfold cliX at hn
    simp only [ownNames, ownNames_ren, List.mem_cons, List.mem_map] at hn ⊢
    rcases hn with rfl | ⟨m, h1, rfl⟩
    · exact .inl rfl
    · exact .inr ⟨m, h.names k m h1, rfl⟩
  · rw [keys_cliX]
    simp only [List.mem_cons, List.mem_map] at hn ⊢
    rcases hn with rfl | ⟨m, h1, rfl⟩
    · exact .inl rfl
    · exact .inr ⟨m, h.fx k m h1, rfl⟩
theorem own_up {E0 : Nat → Prop} {β : Names} {w : World} {own : List (Nat × Own)} {l : Nat} {r : Loop} (h : OwnsOk (fun b => E0 b ∨ b = l) β w own) (hn : ∀ n, n ∈ ownNames own → n ∈ keysO own) (hl : w.heap[l]? = some (.loop r)) (hE : ¬ E0 l) {β' : Names} (h0 : β' 0 = some (.pointer (some ⟨l, 0, none⟩)))
    (h1 : ∀ n, n ∈ keysO own → β' (n + 1) = β n) : OwnsOk E0 β' w ((0, .lp l r) :: renO Nat.succ own) ∧ Eo E0 β' ((0, .lp l r) :: renO Nat.succ own) = Eo (fun b => E0 b ∨ b = l) β own := by
  obtain ⟨g1, g2⟩ := h.ren (β' := β') (p := Nat.succ) hn h1 (fun a b _ _ e => Nat.succ.inj e)
  exact ⟨g1.lpIn h0 hl (by rw [keys_renO]; simp) hE, (Eo_lp h0).trans g2⟩
theorem own_down {E0 : Nat → Prop} {β : Names} {w : World} {own : List (Nat × Own)} {l : Nat} {r : Loop} (h : OwnsOk E0 β w ((0, .lp l r) :: renO Nat.succ own)) (hnd : (keysO own).Nodup) (hn : ∀ n, n ∈ ownNames own → n ∈ keysO own) :
    (β 0 = some (.pointer (some ⟨l, 0, none⟩)) ∧ w.heap[l]? = some (.loop r)) ∧ ¬ E0 l ∧ OwnsOk (fun b => E0 b ∨ b = l) (lowN own β) w own ∧ Eo (fun b => E0 b ∨ b = l) (lowN own β) own = Eo E0 β ((0, .lp l r) :: renO Nat.succ own) := by
  obtain ⟨h1, h2, h3⟩ := h.lpOut
  obtain ⟨h4, h5⟩ := h3.unren (p := Nat.succ) hnd (fun a b _ _ e => Nat.succ.inj e)
  obtain ⟨h6, h7⟩ := h4.restrict (β' := lowN own β) hn (fun n hn => if_pos hn)
  exact ⟨h1, h2, h6, h7.trans (h5.trans (Eo_lp h1.1).symm)⟩
theorem rfn_ok {c : Ctx} (hrd : c.rd = none) {g : Operand} {ps : Array Tmp} {asg body : Code} {Q : Exit → Act → World → Prop} {gf : Nat} {caps : List V} {env0 : List (Nat × V)} {NF : List Nat} {n T : Nat} {J : Option Code}
    {args : Nat → List V} {O O1 : Nat → List (Nat × Own)} {env1 : Nat → List (Nat × V)} (hcli : CliO NF O) (hcli1 : CliO NF O1) (hfn : ∀ n, n ∈ c.fn → n ∈ NF) (henv : ∀ s n, n ∈ (get env0 s).names → n ∈ NF) (hcaps : namesL caps = []) (hargs : ∀ k, namesL (args k) = [])
    (hlen : ∀ k, (args k).length = ps.size) (hps : ∀ p, p ∈ ps.toList → p < c.nt) (hT : J = none → T = n) (hT' : J ≠ none → 0 < T ∧ T ≤ n) (hI : IterC c.P gf caps args n)
    (hA : ∀ k, k < T → ∀ cB : Ctx, cB.P = c.P → cB.nt = c.nt → cB.fn = NF → ∀ β a w, Holds cB β ⟨setPs ps.toList (args k) env0, O k, keysO (O k)⟩ a w → asg.wpIn cB.F 0 cB.P (fun e a' w' => e = .normal ∧ ∃ β', Holds cB β' ⟨env1 k, O1 k, keysO (O1 k)⟩ a' w') a w)
    (hB : ∀ k, k < T → ∀ cB : Ctx, cB.P = c.P → cB.nt = c.nt → cB.fn = NF → ∀ β a w, Holds cB β ⟨env1 k, O1 k, keysO (O1 k)⟩ a w →
      body.wpIn cB.F 0 cB.P (fun e a' w' => ((e = .normal ∧ goAt T J.isSome k = true) ∨ (J ≠ none ∧ pendOf e = J ∧ goAt T J.isSome k = false)) ∧ ∃ β', Holds cB β' ⟨[], O (k + 1), keysO (O (k + 1))⟩ a' w') a w)
    (hQ0 : J = none → ∀ β a w, Holds c β ⟨env0, O T, keysO (O T)⟩ a w → Q .normal a w) (hQ1 : ∀ cd, J = some cd → ∀ β a w, Holds c β ⟨env0, O T, keysO (O T)⟩ a w → cd.wpIn c.F 0 c.P Q a w)
    {β : Names} {a : Act} {w : World} (H : Holds c β ⟨env0, O 0, keysO (O 0)⟩ a w) {x : X} (hx : cX g = some x) (hxv : evV ⟨env0, O 0, keysO (O 0)⟩ x = .fn (.func gf) [] caps) (hxs : evS true ⟨env0, O 0, keysO (O 0)⟩ x) :
    (Code.rangeFunc g ps asg body).wpIn c.F 0 c.P Q a w := by
  have hv0 := evV_ok H hx hxs
  rw [hxv] at hv0
  obtain ⟨ca, hu, hcs, hcr⟩ : ∃ ca : Array Value, a.eval g = .func (.func gf) #[] ca ∧ ca.size = caps.length ∧ ∀ (j : Nat) (v : Value) (x : V), ca[j]? = some v → caps[j]? = some x → RelV β (Eo c.E0 β (O 0)) w v x := by
    generalize a.eval g = u at *
    cases hv0 with
    | fn _ fi ca _ _ g1 g2 r1 r2 => exact ⟨ca, by rw [Array.eq_empty_of_size_eq_zero g1], g2, r2⟩
  have hro : c.F.round = none := hrd
  refine wpIn_rangeFunc fun fn _ => ?_
  rw [hro]
  obtain ⟨rec, hrec⟩ : ∃ rec : LoopState → Option Code → Loop, rec = fun st pe => { state := st, pending := pe, fn, tmps := a.tmps, params := ps, assign := asg, body, defers := w.heap.size } := ⟨_, rfl⟩
  obtain ⟨wI, hwI⟩ : ∃ W1, (w.alloc (Obj.deferred (some []))).alloc (.loop (rec .ready none)) = W1 := ⟨_, rfl⟩
  obtain ⟨l, hl⟩ : ∃ l, w.heap.size + 1 = l := ⟨_, rfl⟩
  have hszI : wI.heap.size = w.heap.size + 2 := by rw [← hwI]; simp
  have hL1 : wI.heap[l]? = some (.loop (rec .ready none)) := by
    rw [← hwI, ← hl]; have := World.alloc_heap_new (w.alloc (Obj.deferred (some []))) (.loop (rec .ready none)); rwa [World.size_alloc] at this
  have hD1 : wI.heap[w.heap.size]? = some (Obj.deferred (some [])) := by
    rw [← hwI]; exact (Below.heap_alloc _ _ _ (by simp)).trans (World.alloc_heap_new w _)
  have hkI : Keeps (fun _ => False) w wI := by
    rw [← hwI]; exact (keeps_alloc w _).trans (keeps_alloc _ _)
  let rc : Nat → Loop := fun k => if k < T ∨ J = none then rec .ready none else rec .done J
  let EI : Nat → Prop := fun b => c.E0 b ∨ b = w.heap.size
  let βI : Names := liftN l β
  let fx : List Nat := 0 :: NF.map Nat.succ
  have hElI : ¬ EI l := by
    rintro (h | h)
    · have := c.hE l h; have := H.kp.size; omega
    · omega
  have hgrow : OwnsOk (fun b => EI b ∨ b = l) β wI (O 0) := H.own.grow hkI (by
    rintro b hb ((h | h) | h)
    · exact h
    · omega
    · omega)
  have hT0 : 0 < T ∨ J = none := by
    cases hJ : J with
    | none => exact .inr rfl
    | some cd => exact .inl (hT' (by rw [hJ]; simp)).1
  obtain ⟨hup, hupE⟩ := own_up (β' := βI) (r := rc 0) hgrow (hcli.names 0) (by simp only [rc, if_pos hT0]; exact hL1) hElI rfl (fun _ _ => rfl)
  have hownI : ∀ b, ownB βI (cliX l rc O 0) b ↔ (b = l ∨ ownB β (O 0) b) := fun b => by
    unfold ownB
    rw [keys_cliX]
    constructor
    · rintro ⟨k, h1, h2⟩
      rcases List.mem_cons.1 h1 with rfl | h1
      · simp [Names.blk, βI, liftN, blkOf] at h2; exact .inl h2.symm
      · obtain ⟨m, h3, rfl⟩ := List.mem_map.1 h1
        exact .inr ⟨m, h3, h2⟩
    · rintro (rfl | ⟨m, h3, h2⟩)
      · exact ⟨0, by simp, by simp [Names.blk, βI, liftN, blkOf]⟩
      · exact ⟨m + 1, List.mem_cons_of_mem _ (List.mem_map.2 ⟨m, h3, rfl⟩), h2⟩
  have hownlt : ∀ b, ownB β (O 0) b → b < w.heap.size := fun b ⟨m, h1, h2⟩ => (H.own.lt m h1 b h2).1
  have hlater : ∀ (E0 : Nat → Prop) (βt : Names) (wt : World) (j : Nat), Keeps (ownB βI (cliX l rc O 0)) wI wt → (∀ b, E0 b → b < wI.heap.size → EI b ∨ ownB βI (cliX l rc O 0) b) → (∀ k, k ∈ keysO (cliX l rc O j) → ∀ b, βt.blk k = some b → wI.heap.size ≤ b ∨ ownB βI (cliX l rc O 0) b) →
      LastsC (Eo c.E0 β (O 0)) (Eo E0 βt (cliX l rc O j)) w wt := fun E0 βt wt j hk hE hb ad v h1 h2 => by
    have hlt := cell_lt h2
    have hno : ¬ ownB βI (cliX l rc O 0) ad.block := fun h => by
      rcases (hownI _).1 h with h | ⟨m, h3, h4⟩
      · omega
      · exact h1 (.inr ⟨m, h3, h4⟩)
    refine ⟨?_, (World.cell?_of_block (hk.block _ (by omega) hno)).trans ((World.cell?_of_block (hkI.block _ hlt (fun h => h))).trans h2)⟩
    rintro (h | ⟨m, h3, h4⟩)
    · rcases hE _ h (by omega) with (h | h) | h
      · exact h1 (.inl h)
      · omega
      · exact hno h
    · rcases hb m h3 _ h4 with h | h
      · omega
      · exact hno h
  have hdown : ∀ (own : List (Nat × Own)) (βt : Names), (∀ n, n ∈ NF → n ∈ keysO own) → (∀ n, n ∈ fx → βt n = βI n) → ∀ n, n ∈ NF → lowN own βt n = β n := fun own βt h1 h2 n hn => by
    simp only [lowN, if_pos (h1 n hn)]
    exact h2 (n + 1) (List.mem_cons_of_mem _ (List.mem_map.2 ⟨n, hn, rfl⟩))
  refine ⟨l, [{ target := .collected w.heap.size, args := #[] }], wI, { target := .fn (.func gf) ca, args := #[.func (.yield l) #[] #[]] }, wI, gf, #[.func (.yield l) #[] #[]] ++ ca, wI, ?_, ?_, fun _ _ => trivial, ?_, fun h => by simp [Ctx.F, Fence.wide] at h, ?_⟩
  · rw [← hwI, hrec, ← hl]; exact run_enterLoop_outer _ _ _ _ _
  · simp only [resolve, hu]
    simp [go_sem]
  · have := run_callFunc (w := wI) hI.1 (#[.func (.yield l) #[] #[]] ++ ca)
    simp only [invoke]
    exact this
  · refine (callsIn_wide (n := 0 - 1)).2 ((hI.2 l EI (ownB βI (cliX l rc O 0)) wI βI fx T J.isSome (cliX l rc O) ca (cli_up hcli) (fun h => hT (by simpa using h)) (fun h => hT' (by rintro rfl; simp at h)) ?_ rfl hup hcs ?_ ?_).mono ?_)
    · rintro b (h | h)
      · have := c.hE b h; have := H.kp.size; omega
      · omega
    · intro j v x hv hx2
      refine (hcr j v x hv hx2).lastsC ?_ fun m hm => ?_
      · exact hlater EI βI wI 0 (Keeps.refl _ _) (fun b h _ => .inl h) (fun k hk b hb => .inr ⟨k, hk, hb⟩)
      · have := names_mem hx2 m hm; rw [hcaps] at this; cases this
    · 
      intro k hk E0 βt wt vals hE hEI hEw hK hblk hfx hvs hva hown
      obtain ⟨⟨hp0, hl0⟩, hEl, hown3, hE3⟩ := own_down hown (hcli.nodup k) (hcli.names k)
      have hrck : rc k = rec .ready none := if_pos (.inl hk)
      rw [hrck] at hl0
      have hltl : l < wt.heap.size := (Array.getElem?_eq_some_iff.1 hl0).1
      refine ⟨fn, _, asg, body, by have := run_yield (P := c.P) (args := vals) hl0 (by rw [hrec]; exact hvs.trans (hlen k)); rw [hrec] at this; exact this, roundIn_of_wpIn trivial ?_⟩
      let cB : Ctx := { P := c.P, E0 := fun b => E0 b ∨ b = l, w0 := wt, L := ownB (lowN (O k) βt) (O k), nt := c.nt, fn := NF, fx := lowN (O k) βt, rd := some l, hE := fun b h => h.elim (hE b) (fun e => e ▸ hltl) }
      have hrel : ∀ s, RelV (lowN (O k) βt) (Eo (fun b => E0 b ∨ b = l) (lowN (O k) βt) (O k)) wt (a.tmps.getD s undef) (get env0 s) := fun s => by
        rw [hE3]
        exact (H.env s).lastsC (hlater E0 βt wt k hK hEw hblk) fun m hm => hdown (O k) βt (hcli.fx k) hfx m (henv s m hm)
      obtain ⟨hsz2, hrel2⟩ := setPs_rel ps.toList vals.toList (args k) env0 a.tmps (by simpa using ((hlen k).symm.trans hvs.symm)) (by simpa using hvs) (fun p hp => by have := hps p hp; rw [← H.sz] at this; exact this) (fun j v y hv hy => (by
        rw [hE3]
        refine (hva j v y (by simpa using hv) hy).lasts (Lasts.refl _ _) fun m hm => ?_
        have := names_mem hy m hm; rw [hargs k] at this; cases this)) hrel
      have hfold : ((rec .ready none).params.zip vals).foldl (fun tmps (t, a) => tmps.setIfInBounds t a) (rec .ready none).tmps = (ps.toList.zip vals.toList).foldl (fun t (p, v) => t.setIfInBounds p v) a.tmps := by
        rw [hrec]
        simp only
        rw [← Array.foldl_toList, Array.toList_zip]
      have HB : Holds cB (lowN (O k) βt) ⟨setPs ps.toList (args k) env0, O k, keysO (O k)⟩ { tmps := ((rec .ready none).params.zip vals).foldl (fun tmps (t, a) => tmps.setIfInBounds t a) (rec .ready none).tmps, defers := [] } wt := by
        rw [hfold]
        exact ⟨hsz2.trans H.sz, MarksOk.nil _ _ _, hrel2, hown3, fun m hm b hb => .inr ⟨m, hm, hb⟩, fun m hm => hm, fun m hm => if_neg hm, Keeps.refl _ _, fun m hm => ⟨hcli.fx k m hm, rfl⟩⟩
      rw [hrec] at HB
      refine wpIn_mono (hA k hk cB rfl rfl rfl _ _ wt HB) ?_
      rintro e a1 w1 ⟨rfl, β1, H1⟩
      have hnl1 : ¬ cB.L l := fun ⟨m, h1, h2⟩ => (hown3.lt m h1 l h2).2 (.inr rfl)
      have hl1 : w1.heap[l]? = some (.loop (rec .ready none)) := (H1.kp.block l hltl hnl1).trans hl0
      refine ⟨_, run_beginRound hl1 (by rw [hrec]), ?_⟩
      have hll1 : l < w1.heap.size := (Array.getElem?_eq_some_iff.1 hl1).1
      have hno1 : ∀ m, m ∈ keysO (O1 k) → β1.blk m ≠ some l := fun m hm e => (H1.own.lt m hm l e).2 (.inr rfl)
      have hl2 : (w1.putObj l (.loop { rec .ready none with state := .busy })).heap[l]? = some (.loop { rec .ready none with state := .busy }) := World.putObj_heap_same hll1
      have hEb : ∀ b, (E0 b ∨ b = l) → b < (w1.putObj l (.loop { rec .ready none with state := .busy })).heap.size := fun b h => by
        have := cB.hE b h
        have h2 := H1.kp.size
        simp only [World.putObj_size]
        exact Nat.lt_of_lt_of_le this h2
      let cB2 : Ctx := { P := c.P, E0 := fun b => E0 b ∨ b = l, w0 := w1.putObj l (.loop { rec .ready none with state := .busy }), L := ownB β1 (O1 k), nt := c.nt, fn := NF, fx := β1, rd := some l, hE := hEb }
      have H2 : Holds cB2 β1 ⟨env1 k, O1 k, keysO (O1 k)⟩ a1 (w1.putObj l (.loop { rec .ready none with state := .busy })) :=
        ⟨H1.sz, by have := H1.df.rd0 (by simp [cB]); rw [this]; exact MarksOk.nil _ _ _, fun s => (H1.env s).lastsC' (lastsC_putObj _ hl1 (fun _ _ _ => by simp)) (Names.le.refl β1), H1.own.turn _ hl1 (fun _ _ _ => by simp) hno1, fun m hm b hb => .inr ⟨m, hm, hb⟩, H1.kn, H1.nm, Keeps.refl _ _, fun m hm => ⟨(H1.fx m hm).1, rfl⟩⟩
      refine wpIn_mono (hB k hk cB2 rfl rfl rfl β1 a1 _ H2) ?_
      rintro e a3 w3 ⟨hcase, β3, H3⟩
      have hnl2 : ¬ cB2.L l := fun ⟨m, h1, h2⟩ => hno1 m h1 h2
      have hl3 : w3.heap[l]? = some (.loop { rec .ready none with state := .busy }) := (H3.kp.block l (by simp [cB2]; exact hll1) hnl2).trans hl2
      have hll3 : l < w3.heap.size := (Array.getElem?_eq_some_iff.1 hl3).1
      have hno3 : ∀ m, m ∈ keysO (O (k + 1)) → β3.blk m ≠ some l := fun m hm e => (H3.own.lt m hm l e).2 (.inr rfl)
      have hfin : ∀ jump : Option Code, (jump = none ∧ goAt T J.isSome k = true) ∨ (J ≠ none ∧ jump = J ∧ goAt T J.isSome k = false) → ∃ v w', (Instr.endRound l jump).run c.P w3 = .ok v w' ∧ ∃ β', Ending.returned v = .returned (.bool (goAt T J.isSome k)) ∧ (∀ n, n ∈ fx → β' n = βt n) ∧ OwnsOk E0 β' w' (cliX l rc O (k + 1)) ∧ Keeps (ownB βt (cliX l rc O k)) wt w' ∧
          (∀ m, m ∈ keysO (cliX l rc O (k + 1)) → ∀ b, β'.blk m = some b → wt.heap.size ≤ b ∨ ownB βt (cliX l rc O k) b) := by
        intro jump hj
        refine ⟨_, _, run_endRound (P := c.P) jump hl3, raiseN l (O (k + 1)) β3, ?_, ?_, ?_, ?_, ?_⟩
        · rcases hj with ⟨rfl, h⟩ | ⟨h1, rfl, h2⟩
          · rw [h]; rfl
          · rw [h2]
            cases jump with
            | none => exact absurd rfl h1
            | some cd => rfl
        · intro m hm
          rcases List.mem_cons.1 hm with rfl | hm
          · exact hp0.symm
          · obtain ⟨q, hq, rfl⟩ := List.mem_map.1 hm
            simp only [raiseN, liftN, if_pos (hcli.fx (k + 1) q hq)]
            rw [(H3.fx q hq).2]
            show β1 q = _
            rw [(H1.fx q hq).2]
            show lowN (O k) βt q = _
            simp only [lowN, if_pos (hcli.fx k q hq)]
        · have hrc1 : ({ rec .ready none with state := if jump.isNone then .ready else .done, pending := jump } : Loop) = rc (k + 1) := by
            rcases hj with ⟨rfl, h⟩ | ⟨h1, rfl, h2⟩
            · have : k + 1 < T ∨ J = none := by
                simp only [goAt, Bool.or_eq_true, decide_eq_true_eq, Bool.not_eq_true'] at h
                exact h.imp id (fun h => by simpa using h)
              simp only [rc, if_pos this]
              rw [hrec]; rfl
            · have : ¬ (k + 1 < T ∨ jump = none) := by
                rintro (h | h)
                · simp [goAt, h] at h2
                · exact h1 h
              simp only [rc, if_neg this]
              have h3 : jump.isNone = false := by
                cases jump with
                | none => exact absurd rfl h1
                | some cd => rfl
              rw [hrec, h3]; rfl
          have hst : ({ { rec .ready none with state := LoopState.busy } with state := if jump.isNone then .ready else .done, pending := jump } : Loop) = rc (k + 1) := hrc1
          rw [hst]
          exact (own_up (β' := raiseN l (O (k + 1)) β3) (H3.own.turn (.loop (rc (k + 1))) hl3 (fun _ _ _ => by simp) hno3) (hcli.names (k + 1)) (World.putObj_heap_same hll3) hEl rfl (fun q hq => if_pos hq)).1
        · have hLt : ∀ b, cB.L b → ownB βt (cliX l rc O k) b := fun b ⟨m, h1, h2⟩ => by
            refine ⟨m + 1, by rw [keys_cliX]; exact List.mem_cons_of_mem _ (List.mem_map.2 ⟨m, h1, rfl⟩), ?_⟩
            simp only [Names.blk, lowN, if_pos h1] at h2
            exact h2
          have hLl : ownB βt (cliX l rc O k) l := ⟨0, by rw [keys_cliX]; simp, by simp [Names.blk, hp0, blkOf]⟩
          have k1 : Keeps (ownB βt (cliX l rc O k)) wt w1 := H1.kp.mono hLt
          have k2 : Keeps (ownB βt (cliX l rc O k)) w1 (w1.putObj l (.loop { rec .ready none with state := .busy })) := keeps_putObj _ _ _ hLl
          have k3 : Keeps (ownB βt (cliX l rc O k)) wt w3 := (k1.trans k2).trans' H3.kp fun i hi ⟨m, h1, h2⟩ => by
            rcases H1.fr m h1 i h2 with h | h
            · exact absurd h (Nat.not_le.2 hi)
            · exact hLt i h
          exact k3.trans (keeps_putObj _ _ _ hLl)
        · intro m hm b hb
          rw [keys_cliX] at hm
          rcases List.mem_cons.1 hm with rfl | hm
          · refine .inr ⟨0, by rw [keys_cliX]; simp, ?_⟩
            simp only [Names.blk, hp0]
            exact hb
          · obtain ⟨q, hq, rfl⟩ := List.mem_map.1 hm
            have hb3 : β3.blk q = some b := by
              simp only [Names.blk, raiseN, liftN, if_pos hq] at hb
              exact hb
            rcases H3.fr q hq b hb3 with h | ⟨m, h1, h2⟩
            · refine .inl (Nat.le_trans H1.kp.size ?_)
              have h : (w1.putObj l (.loop { rec .ready none with state := .busy })).heap.size ≤ b := h
              rwa [World.putObj_size] at h
            · rcases H1.fr m h1 b h2 with h | ⟨m', h3, h4⟩
              · exact .inl h
              · refine .inr ⟨m' + 1, by rw [keys_cliX]; exact List.mem_cons_of_mem _ (List.mem_map.2 ⟨m', h3, rfl⟩), ?_⟩
                have h4 : (lowN (O k) βt).blk m' = some b := h4
                simp only [Names.blk, lowN, if_pos h3] at h4
                exact h4
      rcases hcase with ⟨rfl, hgo⟩ | ⟨hJ, hpe, hgo⟩
      · exact hfin none (.inl ⟨rfl, hgo⟩)
      · cases e with
        | normal => exact absurd hpe.symm hJ
        | ret => exact hfin (some .ret) (.inr ⟨hJ, hpe, hgo⟩)
        | exit id => exact hfin (some (.exit id)) (.inr ⟨hJ, hpe, hgo⟩)
        | goto t => exact hfin (some (.goto t)) (.inr ⟨hJ, hpe, hgo⟩)
        | panic ch => exact absurd hpe.symm hJ
        | outgrown => exact absurd hpe.symm hJ
    · 
      rintro e w' ⟨v, β', rfl, hfx', hown', hK', hblk'⟩
      obtain ⟨⟨hp0, hl0⟩, hEl, hown3, hE3⟩ := own_down hown' (hcli.nodup T) (hcli.names T)
      have hltl : l < w'.heap.size := (Array.getElem?_eq_some_iff.1 hl0).1
      have hst : (rc T).state ≠ .busy ∧ (rc T).pending = J := by
        by_cases h : T < T ∨ J = none
        · simp only [rc, if_pos h]
          rw [hrec]
          exact ⟨by simp, (h.resolve_left (Nat.lt_irrefl T)).symm⟩
        · simp only [rc, if_neg h]
          rw [hrec]
          exact ⟨by simp, rfl⟩
      refine ⟨J, w'.putObj l (.loop { rc T with state := .exhausted }), (run_endLoop (P := c.P) hl0 hst.1).trans (congrArg (fun p => Result.ok p (w'.putObj l (.loop { rc T with state := .exhausted }))) hst.2), ?_⟩
      have hLD : ∀ b, ownB βI (cliX l rc O 0) b → w'.heap.size = w'.heap.size → b ≠ w.heap.size := fun b h _ e => by
        rcases (hownI b).1 h with h | h
        · omega
        · have := hownlt b h; omega
      have hno3 : ∀ m, m ∈ keysO (O T) → (lowN (O T) β').blk m ≠ some l := fun m hm e => (hown3.lt m hm l e).2 (.inr rfl)
      have HF : Holds c (lowN (O T) β') ⟨env0, O T, keysO (O T)⟩ { a with defers := [{ target := .collected w.heap.size, args := #[] }] ++ a.defers } (w'.putObj l (.loop { rc T with state := .exhausted })) := by
        have hEs : Lasts (Eo (fun b => EI b ∨ b = l) (lowN (O T) β') (O T)) (Eo c.E0 (lowN (O T) β') (O T)) w' w' := fun b _ h => ⟨fun h2 => h (h2.imp (fun h => .inl (.inl h)) id), rfl⟩
        have hheap : ∀ b, b < wI.heap.size → ¬ ownB βI (cliX l rc O 0) b → (w'.putObj l (.loop { rc T with state := .exhausted })).heap[b]? = wI.heap[b]? := fun b hb hn => (World.putObj_heap_other (fun e => hn ((hownI b).2 (.inl e)))).trans (hK'.block b hb hn)
        have hdfr : ∀ b, w.heap[b]? = some (Obj.deferred (some [])) → (w'.putObj l (.loop { rc T with state := .exhausted })).heap[b]? = w.heap[b]? := fun b hb => by
          have hlt := (Array.getElem?_eq_some_iff.1 hb).1
          refine (hheap b (by omega) fun h => ?_).trans (hkI.block b hlt (fun h => h))
          rcases (hownI b).1 h with h | ⟨m, h1, h2⟩
          · omega
          · exact own_not_deferred H hb m h1 h2
        refine ⟨H.sz, ⟨fun d hd => ?_, ?_, fun h => absurd hrd h⟩, fun s => ?_, ?_, fun m hm b hb => ?_, fun m hm => hm, fun m hm => if_neg hm, ?_, fun m hm => ?_⟩
        · rcases List.mem_append.1 hd with hd | hd
          · have hd := List.mem_singleton.1 hd
            refine ⟨w.heap.size, hd, H.kp.size, (hheap _ (by omega) fun h => hLD _ h rfl rfl).trans hD1⟩
          · exact (H.df.keep hdfr).ok d hd
        · simp only [List.map_append, List.map_cons, List.map_nil, List.cons_append, List.nil_append, List.nodup_cons]
          refine ⟨fun h => ?_, H.df.nodup⟩
          obtain ⟨d, hd, e⟩ := List.mem_map.1 h
          obtain ⟨b, rfl, _, h3⟩ := H.df.ok d hd
          have := (Array.getElem?_eq_some_iff.1 h3).1
          simp only [Target.collected.injEq] at e
          omega
        · refine RelV.lastsC' (lastsC_putObj _ hl0 (fun _ _ _ => by simp)) (Names.le.refl _) ?_
          refine RelV.lasts' hEs (Names.le.refl _) ?_
          rw [hE3]
          exact (H.env s).lastsC (hlater EI β' w' T hK' (fun b h _ => .inl h) hblk') fun m hm => hdown (O T) β' (hcli.fx T) hfx' m (henv s m hm)
        · refine OwnsOk.turn ?_ _ hl0 (fun _ _ _ => by simp) hno3
          exact hown3.grow ⟨rfl, rfl, rfl, Nat.le_refl _, fun _ _ _ => rfl⟩ (fun b _ h => .inl (.inl h))
        · have hb' : β'.blk (m + 1) = some b := by
            simp only [Names.blk, lowN, if_pos hm] at hb
            exact hb
          rcases hblk' (m + 1) (by rw [keys_cliX]; exact List.mem_cons_of_mem _ (List.mem_map.2 ⟨m, hm, rfl⟩)) b hb' with h | h
          · left; have := H.kp.size; omega
          · rcases (hownI b).1 h with h | ⟨q, h1, h2⟩
            · left; have := H.kp.size; omega
            · exact H.fr q h1 b h2
        · refine (H.kp.trans' hkI (fun _ _ h => h.elim)).trans' (hK'.trans' (keeps_putObj (L := fun b => b = l) _ _ _ rfl) fun i _ h => (hownI i).2 (.inl h)) fun i hi h => ?_
          rcases (hownI i).1 h with h | ⟨q, h1, h2⟩
          · have := H.kp.size; omega
          · exact (H.fr q h1 i h2).resolve_left (by omega)
        · refine ⟨hcli.fx T m (hfn m hm), ?_⟩
          rw [hdown (O T) β' (hcli.fx T) hfx' m (hfn m hm)]
          exact (H.fx m hm).2
      cases hJ : J with
      | none => exact hQ0 hJ _ _ _ HF
      | some cd => exact hQ1 cd hJ _ _ _ HF
end Go.Bx
end
section
set_option linter.unusedSimpArgs false
set_option linter.unusedVariables false
namespace Go.Bx
open Go.RowKit
inductive C where
  | skip
  | reg (is : List I)
  | drw (anc : List Nat) (is : List I)
  | seq (a b : C)
  | cond (x : X) (a b : C)
  | block (id : Nat) (a : C)
  | loop (a : C)
  | exit (id : Nat)
  | scope (l : Nat) (a b : C)
  | rfn (x : X) (ps : List Nat) (a b : C)
  | ret
  | bad
def firstLabel : Code → Option Nat
  | .seq a b => match firstLabel a with | some l => some l | none => firstLabel b
  | .label l => some l
  | _ => none
def cGuard (ops : Array Oper) (o : Oper) : Option (Option (Nat × Bool)) :=
  match o.guard with
  | none => some none
  | some (j, want) =>
    match (ops[j]?).bind (·.dst) with
    | some s => some (some (s, want))
    | none => none
def cInstr (P : Program) (nt : Nat) (ops : Array Oper) (o : Oper) : Option I :=
  match cOp P o, cGuard ops o with
  | some q, some g => if (o.dst.all fun d => decide (d < nt)) = true ∧ (makes q = true → o.dst.isSome = true) ∧ (isStore q = true → o.dst = none) then some ⟨o.dst, g, q⟩ else none
  | _, _ => none
def cRegion (P : Program) (nt : Nat) (ops : Array Oper) : List Oper → Option (List I)
  | [] => some []
  | o :: l =>
    match cInstr P nt ops o, cRegion P nt ops l with
    | some i, some r => some (i :: r)
    | _, _ => none
def cCodeF (P : Program) (nt : Nat) : Nat → Code → Option C
  | 0, _ => some .bad
  | n + 1, code => match code with
    | .skip => some .skip
    | .region _ ops draw =>
      match cRegion P nt ops ops.toList with
      | some is =>
        if draw = false then some (.reg is)
        else if P.follows .mixedOrders = true ∧ ancOk ops (Region.before ops).toList = true ∧ slotsOk is (Region.before ops).toList = true then some (.drw (Region.before ops).toList is) else none
      | none => some .bad
    | .seq a b =>
      match cCodeF P nt n a, cCodeF P nt n b with
      | some a, some b => some (.seq a b)
      | _, _ => none
    | .cond x a b =>
      match cX x, cCodeF P nt n a, cCodeF P nt n b with
      | some x, some a, some b => some (.cond x a b)
      | _, _, _ => none
    | .block id a => (cCodeF P nt n a).map (.block (2 * id))
    | .loop a => (cCodeF P nt n a).map .loop
    | .exit id => some (.exit (2 * id))
    | .ret => some .ret
    | .label _ => some .skip
    | .goto l => some (.exit (2 * l + 1))
    | .scope body =>
      match firstLabel body with
      | some l =>
        match findLabel body l with
        | some rest =>
          match cCodeF P nt n body, cCodeF P nt n rest with
          | some a, some b => some (.scope (2 * l + 1) a b)
          | _, _ => none
        | none => some .bad
      | none => some .bad
    | .rangeFunc g ps asg body =>
      match cX g, cCodeF P nt n asg, cCodeF P nt n body with
      | some x, some a, some b => if (ps.toList.all fun p => decide (p < nt)) = true then some (.rfn x ps.toList a b) else none
      | _, _, _ => none
    | _ => some .bad
def cCode (P : Program) (nt : Nat) (code : Code) : Option C := cCodeF P nt 64 code
inductive Ex where
  | nrm
  | exit (id : Nat)
  | ret
def pendEx : Ex → Option Code
  | .nrm => none
  | .exit i => some (if i % 2 = 0 then .exit (i / 2) else .goto (i / 2))
  | .ret => some .ret
abbrev Kont := Ex → St → Prop
def blkK (id : Nat) (K : Kont) : Kont
  | .nrm, st => K .nrm st
  | .exit i, st => if i = id then K .nrm st else K (.exit i) st
  | .ret, st => K .ret st
def lopK {X : Type} (c : Ctx) (S : X → St) (p : X → Prop) (m : X → Nat) (x : X) (K : Kont) : Kont
  | .nrm, st => ∃ x', p x' ∧ Wk c st (S x') ∧ m x' < m x
  | .exit i, st => K (.exit i) st
  | .ret, st => K .ret st
def jmpK (l : Nat) (J : St → Prop) (K : Kont) : Kont
  | .nrm, st => K .nrm st
  | .exit i, st => if i = l then J st else if i % 2 = 1 then False else K (.exit i) st
  | .ret, st => K .ret st
def rfnA (c : Ctx) (env : List (Nat × V)) (O : List (Nat × Own)) : Kont
  | .nrm, st => Wk c st ⟨env, O, keysO O⟩
  | .exit _, _ => False
  | .ret, _ => False
def rfnB (c : Ctx) (go : Bool) (J : Option Ex) (O : List (Nat × Own)) : Kont
  | .nrm, st => go = true ∧ Wk c st ⟨[], O, keysO O⟩
  | .exit i, st => go = false ∧ J = some (.exit i) ∧ Wk c st ⟨[], O, keysO O⟩
  | .ret, st => go = false ∧ J = some .ret ∧ Wk c st ⟨[], O, keysO O⟩
structure RfnO (c : Ctx) (env0 : List (Nat × V)) (NF : List Nat) (n T : Nat) (J : Option Ex) (caps : List V) (args : Nat → List V) (O O1 : Nat → List (Nat × Own)) (m : Nat) : Prop where
  rd : c.rd = none
  cli : CliO NF O
  cli1 : CliO NF O1
  fn : ∀ n, n ∈ c.fn → n ∈ NF
  env : ∀ s n, n ∈ (get env0 s).names → n ∈ NF
  capn : namesL caps = []
  argn : ∀ k, namesL (args k) = []
  len : ∀ k, (args k).length = m
  all : J = none → T = n
  stp : J ≠ none → 0 < T ∧ T ≤ n
  nrm : J ≠ some Ex.nrm
def wkK (c : Ctx) (K : Kont) : Kont := fun e st => ∃ st', Wk c st st' ∧ K e st'
def vcC (c : Ctx) (code : C) (st : St) (K : Kont) : Prop := match code, st, K with
  | .skip, st, K => K .nrm st
  | .reg is, st, K => vcR c false is st [] (fun _ st' => K .nrm st')
  | .drw anc is, st, K => vcR c true is st [] (fun lg st' => ownOk lg anc = true ∧ K .nrm st')
  | .seq a b, st, K => vcC c a st (fun e st' => match e with | .nrm => vcC c b st' K | .exit i => K (.exit i) st' | .ret => K .ret st')
  | .cond x a b, st, K =>
    match evV st x with
    | .d (.bool t) => evS true st x ∧ (t = true → vcC c a st K) ∧ (t = false → vcC c b st K)
    | .d (.qb p q) => evS true st x ∧ (p → vcC c a st K) ∧ (q → vcC c b st K)
    | _ => False
  | .block id a, st, K => vcC c a st (blkK id K)
  | .loop a, st, K => ∃ (X : Type) (S : X → St) (p : X → Prop) (m : X → Nat), (∃ x, p x ∧ Wk c st (S x)) ∧ ∀ x, p x → vcC c a (S x) (lopK c S p m x (wkK c K))
  | .exit id, st, K => K (.exit id) st
  | .scope l a b, st, K => ∃ (X : Type) (S : X → St) (p : X → Prop) (m : X → Nat), vcC c a st (jmpK l (fun st => ∃ x, p x ∧ Wk c st (S x)) K) ∧ ∀ x, p x → vcC c b (S x) (jmpK l (fun st => ∃ x', p x' ∧ Wk c st (S x') ∧ m x' < m x) K)
  | .rfn x ps a b, st, K => ∃ (gf : FuncId) (caps : List V) (env0 : List (Nat × V)) (NF : List Nat) (n T : Nat) (J : Option Ex) (args : Nat → List V) (O O1 : Nat → List (Nat × Own)) (env1 : Nat → List (Nat × V)),
    Wk c st ⟨env0, O 0, keysO (O 0)⟩ ∧ evV ⟨env0, O 0, keysO (O 0)⟩ x = .fn (.func gf) [] caps ∧ evS true ⟨env0, O 0, keysO (O 0)⟩ x ∧ RfnO c env0 NF n T J caps args O O1 ps.length ∧ IterC c.P gf caps args n ∧
    (∀ k, k < T → ∀ cB : Ctx, cB.P = c.P → cB.nt = c.nt → cB.fn = NF → vcC cB a ⟨setPs ps (args k) env0, O k, keysO (O k)⟩ (rfnA cB (env1 k) (O1 k)) ∧ vcC cB b ⟨env1 k, O1 k, keysO (O1 k)⟩ (rfnB cB (goAt T J.isSome k) J (O (k + 1)))) ∧
    (J = none → K .nrm ⟨env0, O T, keysO (O T)⟩) ∧ (∀ e, J = some e → K e ⟨env0, O T, keysO (O T)⟩)
  | .ret, st, K => K .ret st
  | .bad, _, _ => False
def nrmK (K : Kont) : List Lg → St → Prop := fun _ st => K .nrm st
def drwK (anc : List Nat) (K : Kont) : List Lg → St → Prop := fun lg st => ownOk lg anc = true ∧ K .nrm st
def seqK (c : Ctx) (b : C) (K : Kont) : Kont
  | .nrm, st => vcC c b st K
  | .exit i, st => K (.exit i) st
  | .ret, st => K .ret st
section
variable {c : Ctx} {st : St} {K : Kont}
theorem vcC_skip : vcC c .skip st K = K .nrm st := propext ⟨fun h => h, fun h => h⟩
theorem vcC_reg {is : List I} : vcC c (.reg is) st K = vcR c false is st [] (nrmK K) := propext ⟨fun h => h, fun h => h⟩
theorem vcC_drw {anc : List Nat} {is : List I} : vcC c (.drw anc is) st K = vcR c true is st [] (drwK anc K) := propext ⟨fun h => h, fun h => h⟩
theorem nrmK_app {lg : List Lg} : nrmK K lg st = K .nrm st := propext ⟨fun h => h, fun h => h⟩
theorem drwK_app {anc : List Nat} {lg : List Lg} : drwK anc K lg st = (ownOk lg anc = true ∧ K .nrm st) := propext ⟨fun h => h, fun h => h⟩
theorem vcC_seq {a b : C} : vcC c (.seq a b) st K = vcC c a st (seqK c b K) := by
  simp only [vcC]
  congr 1
  funext e st'
  cases e <;> rfl
theorem vcC_cond {x : X} {a b : C} : vcC c (.cond x a b) st K = (match evV st x with
    | .d (.bool t) => evS true st x ∧ (t = true → vcC c a st K) ∧ (t = false → vcC c b st K)
    | .d (.qb p q) => evS true st x ∧ (p → vcC c a st K) ∧ (q → vcC c b st K)
    | _ => False) := propext ⟨fun h => h, fun h => h⟩
theorem vcC_block {id : Nat} {a : C} : vcC c (.block id a) st K = vcC c a st (blkK id K) := propext ⟨fun h => h, fun h => h⟩
theorem vcC_exit {id : Nat} : vcC c (.exit id) st K = K (.exit id) st := propext ⟨fun h => h, fun h => h⟩
theorem vcC_ret : vcC c .ret st K = K .ret st := propext ⟨fun h => h, fun h => h⟩
theorem vcC_bad : vcC c .bad st K = False := propext ⟨fun h => h, fun h => h⟩
theorem seqK_nrm {b : C} : seqK c b K .nrm st = vcC c b st K := propext ⟨fun h => h, fun h => h⟩
theorem seqK_exit {b : C} {i : Nat} : seqK c b K (.exit i) st = K (.exit i) st := propext ⟨fun h => h, fun h => h⟩
theorem seqK_ret {b : C} : seqK c b K .ret st = K .ret st := propext ⟨fun h => h, fun h => h⟩
theorem blkK_nrm {id : Nat} : blkK id K .nrm st = K .nrm st := propext ⟨fun h => h, fun h => h⟩
theorem blkK_exit {id i : Nat} : blkK id K (.exit i) st = if i = id then K .nrm st else K (.exit i) st := propext ⟨fun h => h, fun h => h⟩
theorem blkK_ret {id : Nat} : blkK id K .ret st = K .ret st := propext ⟨fun h => h, fun h => h⟩
theorem lopK_nrm {X : Type} {S : X → St} {p : X → Prop} {m : X → Nat} {x : X} : lopK c S p m x K .nrm st = ∃ x', p x' ∧ Wk c st (S x') ∧ m x' < m x := propext ⟨fun h => h, fun h => h⟩
theorem lopK_exit {X : Type} {S : X → St} {p : X → Prop} {m : X → Nat} {x : X} {i : Nat} : lopK c S p m x K (.exit i) st = K (.exit i) st := propext ⟨fun h => h, fun h => h⟩
theorem lopK_ret {X : Type} {S : X → St} {p : X → Prop} {m : X → Nat} {x : X} : lopK c S p m x K .ret st = K .ret st := propext ⟨fun h => h, fun h => h⟩
theorem jmpK_nrm {l : Nat} {J : St → Prop} : jmpK l J K .nrm st = K .nrm st := propext ⟨fun h => h, fun h => h⟩
theorem jmpK_exit {l i : Nat} {J : St → Prop} : jmpK l J K (.exit i) st = if i = l then J st else if i % 2 = 1 then False else K (.exit i) st := propext ⟨fun h => h, fun h => h⟩
theorem jmpK_ret {l : Nat} {J : St → Prop} : jmpK l J K .ret st = K .ret st := propext ⟨fun h => h, fun h => h⟩
theorem jmpK_mono {l : Nat} {J : St → Prop} {K K' : Kont} (hk : ∀ e st, K e st → K' e st) : ∀ e st, jmpK l J K e st → jmpK l J K' e st := by
  intro e st h
  cases e with
  | nrm => exact hk _ _ h
  | exit i =>
    rw [jmpK_exit] at h ⊢
    split
    · rename_i hi; rw [if_pos hi] at h; exact h
    · rename_i hi
      rw [if_neg hi] at h
      split
      · rename_i h2; rw [if_pos h2] at h; exact h
      · rename_i h2; rw [if_neg h2] at h; exact hk _ _ h
  | ret => exact hk _ _ h
theorem vcC_mono : ∀ {code : C} {st : St} {K K' : Kont}, (∀ e st, K e st → K' e st) → vcC c code st K → vcC c code st K' := by
  intro code
  induction code with
  | skip => intro st K K' hk h; exact hk _ _ h
  | reg is => intro st K K' hk h; exact vcR_mono (fun _ st h => hk _ st h) h
  | drw anc is => intro st K K' hk h; exact vcR_mono (fun _ st h => ⟨h.1, hk _ st h.2⟩) h
  | seq a b iha ihb =>
    intro st K K' hk h
    rw [vcC_seq] at h ⊢
    refine iha (fun e st h => ?_) h
    cases e with
    | nrm => exact ihb hk h
    | exit i => exact hk _ _ h
    | ret => exact hk _ _ h
  | cond x a b iha ihb =>
    intro st K K' hk h
    rw [vcC_cond] at h ⊢
    split at h
    · exact ⟨h.1, fun e => iha hk (h.2.1 e), fun e => ihb hk (h.2.2 e)⟩
    · exact ⟨h.1, fun e => iha hk (h.2.1 e), fun e => ihb hk (h.2.2 e)⟩
    · exact h.elim
  | block id a ih =>
    intro st K K' hk h
    rw [vcC_block] at h ⊢
    refine ih (fun e st h => ?_) h
    cases e with
    | nrm => exact hk _ _ h
    | exit i =>
      rw [blkK_exit] at h ⊢
      split at h
      · rename_i hi; rw [if_pos hi]; exact hk _ _ h
      · rename_i hi; rw [if_neg hi]; exact hk _ _ h
    | ret => exact hk _ _ h
  | loop a ih =>
    intro st K K' hk h
    obtain ⟨X, S, p, m, hx, h⟩ := h
    refine ⟨X, S, p, m, hx, fun x hp => ih (fun e st h => ?_) (h x hp)⟩
    cases e with
    | nrm => exact h
    | exit i => obtain ⟨st', h1, h2⟩ := h; exact ⟨st', h1, hk _ _ h2⟩
    | ret => obtain ⟨st', h1, h2⟩ := h; exact ⟨st', h1, hk _ _ h2⟩
  | exit id => intro st K K' hk h; exact hk _ _ h
  | scope l a b iha ihb =>
    intro st K K' hk h
    obtain ⟨X, S, p, m, h1, h2⟩ := h
    exact ⟨X, S, p, m, iha (jmpK_mono hk) h1, fun x hp => ihb (jmpK_mono hk) (h2 x hp)⟩
  | rfn x ps a b _ _ =>
    intro st K K' hk h
    unfold vcC at h ⊢
    obtain ⟨gf, caps, env0, NF, n, T, J, args, O, O1, env1, h1, h2, h3, h4, h5, h6, h7, h8⟩ := h
    exact ⟨gf, caps, env0, NF, n, T, J, args, O, O1, env1, h1, h2, h3, h4, h5, h6, fun e => hk _ _ (h7 e), fun e he => hk _ _ (h8 e he)⟩
  | ret => intro st K K' hk h; exact hk _ _ h
  | bad => intro st K K' hk h; exact h.elim
theorem vcC.loop {a : C} {X : Type} (S : X → St) (p : X → Prop) (m : X → Nat) (x0 : X) (h0 : p x0) (h1 : Wk c st (S x0)) (h : ∀ x, p x → vcC c a (S x) (lopK c S p m x K)) : vcC c (.loop a) st K :=
  ⟨X, S, p, m, ⟨x0, h0, h1⟩, fun x hp => vcC_mono (fun e st h => by
    cases e with
    | nrm => exact h
    | exit i => exact ⟨st, fun β f w H => ⟨β, H⟩, h⟩
    | ret => exact ⟨st, fun β f w H => ⟨β, H⟩, h⟩) (h x hp)⟩
def lopX {X Y : Type} (c : Ctx) (S : X → St) (p : X → Prop) (m : X → Nat) (x : X) (id : Nat) (T : Y → St) (pT : Y → Prop) (K : Kont) : Kont
  | .nrm, st => ∃ x', p x' ∧ Wk c st (S x') ∧ m x' < m x
  | .exit i, st => if i = id then ∃ y, pT y ∧ Wk c st (T y) else K (.exit i) st
  | .ret, st => K .ret st
theorem lopX_exit {X Y : Type} {S : X → St} {p : X → Prop} {m : X → Nat} {x : X} {id : Nat} {T : Y → St} {pT : Y → Prop} {i : Nat} : lopX c S p m x id T pT K (.exit i) st = if i = id then ∃ y, pT y ∧ Wk c st (T y) else K (.exit i) st := propext ⟨fun h => h, fun h => h⟩
theorem lopX_ret {X Y : Type} {S : X → St} {p : X → Prop} {m : X → Nat} {x : X} {id : Nat} {T : Y → St} {pT : Y → Prop} : lopX c S p m x id T pT K .ret st = K .ret st := propext ⟨fun h => h, fun h => h⟩
theorem vcC.loopX {a : C} {id : Nat} {X Y : Type} (S : X → St) (p : X → Prop) (m : X → Nat) (x0 : X) (T : Y → St) (pT : Y → Prop) (h0 : p x0) (h1 : Wk c st (S x0)) (h : ∀ x, p x → vcC c a (S x) (lopX c S p m x id T pT K)) (hT : ∀ y, pT y → K .nrm (T y)) :
    vcC c (.loop a) st (blkK id K) :=
  ⟨X, S, p, m, ⟨x0, h0, h1⟩, fun x hp => vcC_mono (fun e st h => by
    cases e with
    | nrm => exact h
    | exit i =>
      rw [lopX_exit] at h
      by_cases hi : i = id
      · rw [if_pos hi] at h
        obtain ⟨y, h2, h3⟩ := h
        refine ⟨T y, h3, ?_⟩
        rw [blkK_exit, if_pos hi]
        exact hT y h2
      · rw [if_neg hi] at h
        refine ⟨st, fun β f w H => ⟨β, H⟩, ?_⟩
        rw [blkK_exit, if_neg hi]
        exact h
    | ret => exact ⟨st, fun β f w H => ⟨β, H⟩, h⟩) (h x hp)⟩
end
def PostC (c : Ctx) (K : Kont) : Exit → Act → World → Prop := fun e a w => ∃ x, (match e with | .normal => some Ex.nrm | .exit i => some (.exit (2 * i)) | .goto l => some (.exit (2 * l + 1)) | .ret => some .ret | _ => none) = some x ∧ ∃ β st, K x st ∧ Holds c β st a w
theorem cInstr_ok {c : Ctx} {ops : Array Oper} {o : Oper} {i : I} (h : cInstr c.P c.nt ops o = some i) : Cmp c ops o i := by
  unfold cInstr at h
  split at h
  · rename_i q g hq hg
    split at h
    · rename_i hh
      cases h
      obtain ⟨h1, h2, h3⟩ := hh
      refine ⟨rfl, fun d hd => ?_, hq, h2, h3, ?_⟩
      · simp only at hd
        rw [hd] at h1
        simpa using h1
      · unfold cGuard at hg
        cases hgo : o.guard with
        | none => simp [hgo] at hg; exact hg.symm
        | some jw =>
          obtain ⟨j, want⟩ := jw
          simp only [hgo] at hg
          split at hg
          · rename_i s hs
            simp at hg
            exact ⟨s, hs, hg.symm⟩
          · cases hg
    · cases h
  · cases h
theorem cRegion_ok {c : Ctx} {ops : Array Oper} : ∀ {l : List Oper} {is : List I}, cRegion c.P c.nt ops l = some is → l.length = is.length ∧ ∀ (j : Nat) (o : Oper) (i : I), l[j]? = some o → is[j]? = some i → Cmp c ops o i
  | [], is, h => by simp [cRegion] at h; subst h; simp
  | o :: l, is, h => by
    simp only [cRegion] at h
    split at h
    · rename_i i r h1 h2
      simp at h; subst h
      obtain ⟨e, hr⟩ := cRegion_ok h2
      refine ⟨by simp [e], fun j o' i' ho hi => ?_⟩
      cases j with
      | zero => simp at ho hi; subst ho; subst hi; exact cInstr_ok h1
      | succ j => simp at ho hi; exact hr j o' i' ho hi
    · cases h
theorem Holds.drew {c : Ctx} {β : Names} {st : St} {a : Act} {w : World} (H : Holds c β st a w) (n : Nat) : Holds c β st a { w with drawn := n } := by
  have hl : Lasts (Eo c.E0 β st.own) (Eo c.E0 β st.own) w { w with drawn := n } := fun b _ h => ⟨h, rfl⟩
  exact ⟨H.sz, H.df.keep (fun _ _ => rfl), fun s => (H.env s).lasts' hl (Names.le.refl β), ⟨fun k o h => (H.own.ok k o h).lasts hl (Names.le.refl β) (fun _ _ => rfl), H.own.nodup, H.own.apart, H.own.lt⟩, H.fr, H.kn, H.nm, H.kp.trans ⟨rfl, rfl, rfl, Nat.le_refl _, fun _ _ _ => rfl⟩, H.fx⟩
theorem least_of {p : Nat → Prop} : (∃ n, p n) → ∃ n, p n ∧ ∀ m, p m → n ≤ m := by
  rintro ⟨n, hn⟩
  induction n using Nat.strongRecOn with
  | _ n ih =>
    by_cases h : ∃ m, m < n ∧ p m
    · obtain ⟨m, h1, h2⟩ := h
      exact ih m h1 h2
    · refine ⟨n, hn, fun m hm => ?_⟩
      by_cases h3 : m < n
      · exact absurd ⟨m, h3, hm⟩ h
      · omega
theorem stepR_scope {P : Program} {b : Frame} {a : Act} {k : List Item} {cs : List Frame} {w : World} {c : Code} : step P (lone (b.atR a (.code (.scope c) :: k)) cs w) = .next (lone (b.atR a (.code c :: .inScope c :: k)) cs w) :=
  step_lone_go (by simp [stepG, stepG.exec, Frame.atR])
theorem stepR_inScope {P : Program} {b : Frame} {a : Act} {k : List Item} {cs : List Frame} {w : World} {c : Code} : step P (lone (b.atR a (.inScope c :: k)) cs w) = .next (lone (b.atR a k) cs w) :=
  step_lone_go (by simp [stepG, stepG.exec, Frame.atR])
def jumpQ (l : Nat) (J : Act → World → Prop) (Q : Exit → Act → World → Prop) : Exit → Act → World → Prop
  | .goto l', a, w => l' = l ∧ J a w
  | e, a, w => Q e a w
theorem wpIn_scope_jumps {F : Fence} {n : Nat} {P : Program} {a : Act} {w : World} {Q : Exit → Act → World → Prop} {c rest : Code} (l : Nat) (J : Act → World → Prop) (μ : Act → World → Nat) (hf : findLabel c l = some rest)
    (first : c.wpIn F n P (jumpQ l J Q) a w)
    (pass : ∀ a w, J a w → rest.wpIn F n P (jumpQ l (fun a' w' => J a' w' ∧ μ a' w' < μ a w) Q) a w) : (Code.scope c).wpIn F n P Q a w := by
  intro b k cs hro hb hr
  have hg : gotoIn l (.inScope c :: k) = some (.code rest :: .inScope c :: k) := by simp [gotoIn, hf]
  have hx : ∀ id, exitTo id (.inScope c :: k) = exitTo id k := fun id => by simp [exitTo]
  have hi : ∀ a w, StepsIn (Machine.fenced P F) P (lone (b.atR a (.inScope c :: k)) cs w) (lone (b.atR a k) cs w) := fun a w => .one (fenced_calm hb hr rfl) stepR_inScope
  have key : ∀ m a w, μ a w = m → J a w → ∃ e a' w', Q e a' w' ∧ ArrivesIn (Machine.fenced P F) P (lone (b.atR a (.code rest :: .inScope c :: k)) cs w) b k cs e a' w' := by
    intro m
    induction m using Nat.strongRecOn with
    | _ m ih =>
      intro a w hn hJ
      obtain ⟨e, a₁, w₁, hq, harr⟩ := pass a w hJ b (.inScope c :: k) cs hro hb hr
      cases e with
      | normal => exact ⟨.normal, a₁, w₁, hq, StepsIn.trans harr (hi _ _)⟩
      | exit id => exact ⟨.exit id, a₁, w₁, hq, fun k' hk => harr.1 k' (by rw [hx]; exact hk), fun hr' hk => harr.2 hr' (by rw [hx]; exact hk)⟩
      | goto l' =>
        obtain ⟨rfl, hJ', hlt⟩ := hq
        obtain ⟨e₂, a₂, w₂, hq₂, harr₂⟩ := ih _ (by omega) a₁ w₁ rfl hJ'
        exact ⟨e₂, a₂, w₂, hq₂, .of_steps (harr.1 _ hg) harr₂⟩
      | ret => exact ⟨_, a₁, w₁, hq, harr⟩
      | panic ch => exact ⟨_, a₁, w₁, hq, harr⟩
      | outgrown => exact ⟨_, a₁, w₁, hq, harr⟩
  have h0 : StepsIn (Machine.fenced P F) P (lone (b.atR a (.code (.scope c) :: k)) cs w) (lone (b.atR a (.code c :: .inScope c :: k)) cs w) := .one (fenced_calm hb hr rfl) stepR_scope
  obtain ⟨e, a₁, w₁, hq, harr⟩ := first b (.inScope c :: k) cs hro hb hr
  cases e with
  | normal => exact ⟨.normal, a₁, w₁, hq, StepsIn.trans h0 (StepsIn.trans harr (hi _ _))⟩
  | exit id => exact ⟨.exit id, a₁, w₁, hq, .of_steps (e := .exit id) h0 ⟨fun k' hk => harr.1 k' (by rw [hx]; exact hk), fun hr' hk => harr.2 hr' (by rw [hx]; exact hk)⟩⟩
  | goto l' =>
    obtain ⟨rfl, hJ'⟩ := hq
    obtain ⟨e₂, a₂, w₂, hq₂, harr₂⟩ := key _ a₁ w₁ rfl hJ'
    exact ⟨e₂, a₂, w₂, hq₂, .of_steps (StepsIn.trans h0 (harr.1 _ hg)) harr₂⟩
  | ret => exact ⟨_, a₁, w₁, hq, .of_steps h0 harr⟩
  | panic ch => exact ⟨_, a₁, w₁, hq, .of_steps h0 harr⟩
  | outgrown => exact ⟨_, a₁, w₁, hq, .of_steps h0 harr⟩
theorem wpIn_loop_ghost {F : Fence} {m : Nat} {P : Program} {Q : Exit → Act → World → Prop} {a : Act} {w : World} {c : Code} (I : Nat → Act → World → Prop) (n₀ : Nat) (h₀ : I n₀ a w)
    (round : ∀ n a w, I n a w → c.wpIn F m P (Exit.then (fun a' w' => ∃ n', n' < n ∧ I n' a' w') Q) a w) : (Code.loop c).wpIn F m P Q a w := by
  refine wpIn_loop (fun a w => ∃ n, I n a w) (fun a w => leastOf (fun n => I n a w)) ⟨n₀, h₀⟩ ?_
  intro a w hI
  refine wpIn_mono (round _ a w (leastOf_spec hI).1) ?_
  intro e a' w' hq
  cases e with
  | normal =>
    obtain ⟨n', hlt, hI'⟩ := hq
    exact show (∃ n, I n a' w') ∧ leastOf (fun n => I n a' w') < leastOf (fun n => I n a w) from ⟨⟨n', hI'⟩, Nat.lt_of_le_of_lt ((leastOf_spec ⟨n', hI'⟩).2 n' hI') hlt⟩
  | exit id => exact hq
  | goto l => exact hq
  | ret => exact hq
  | panic ch => exact hq
  | outgrown => exact hq
theorem codeF_ok : ∀ (n : Nat) {c : Ctx} {code : Code} {cc : C} {st : St} {K : Kont}, cCodeF c.P c.nt n code = some cc → vcC c cc st K → ∀ β a w, Holds c β st a w → code.wpIn c.F 0 c.P (PostC c K) a w := by
  intro n
  induction n with
  | zero => intro c code cc st K hc h; simp [cCodeF] at hc; subst hc; exact h.elim
  | succ n ih =>
  intro c code
  cases code with
  | skip =>
    intro cc st K hc h β a w H
    simp [cCodeF] at hc; subst hc
    exact wpIn_skip ⟨.nrm, rfl, β, st, h, H⟩
  | region id ops draw =>
    intro cc st K hc h β a w H
    simp only [cCodeF] at hc
    split at hc
    · rename_i is his
      obtain ⟨hl, hcmp⟩ := cRegion_ok his
      split at hc
      · rename_i hd
        subst hd
        cases hc
        refine wpIn_region_list ?_
        exact wp_walk (fun st' hk β a w H' => ⟨.nrm, rfl, β, st', hk, H'⟩) (vcR_ok h) hl hcmp β a w H
      · rename_i hd
        have hd : draw = true := by simpa using hd
        subst hd
        split at hc
        · rename_i hh
          cases hc
          obtain ⟨ss, st', hT, hk⟩ := vcR_ok h
          simp only [List.nil_append] at hk
          refine wpIn_region_any hh.1 ?_
          have hr0 : runS (fun j => (Array.replicate ops.size false).getD j false) 0 ((is.map (·.dst)).zip ss) st = st := by
            have : ∀ (l : List (Option Nat × Stp)) (j : Nat), runS (fun j => (Array.replicate ops.size false).getD j false) j l st = st := by
              intro l
              induction l with
              | nil => intro _; rfl
              | cons p l ih =>
                intro j
                obtain ⟨d, s⟩ := p
                simp only [runS]
                have : (Array.replicate ops.size false).getD j false = false := by
                  simp only [Array.getD_eq_getD_getElem?, Array.getElem?_replicate]
                  split <;> rfl
                rw [if_neg (by rw [this]; simp)]
                exact ih (j + 1)
            exact this _ 0
          refine wp_any (c := c) hT (by simpa using hl) (fun j o i ho hi => hcmp j o i (by simpa using ho) hi) hh.2.1 hh.2.2 hk.1 (fun β a w H' => ⟨.nrm, rfl, β, st', hk.2, H'⟩) H.own.nodup ops.size _ β a _ (by simp) ?_ ?_ (by rw [hr0]; exact H.drew _)
          · have : (List.range ops.size).countP (fun j => (Array.replicate ops.size false).getD j false) = 0 := by
              rw [List.countP_eq_zero]
              intro j hj
              have := List.mem_range.1 hj
              simp [this]
            omega
          · intro j o ho hj
            have hjl := (Array.getElem?_eq_some_iff.1 ho).1
            simp [hjl] at hj
        · cases hc
    · cases hc; exact h.elim
  | seq x y =>
    intro cc st K hc h β a w H
    simp only [cCodeF] at hc
    split at hc
    · rename_i x' y' h1 h2
      cases hc
      rw [vcC_seq] at h
      refine wpIn_seq (wpIn_mono (ih h1 h β a w H) ?_)
      rintro e a' w' ⟨ex, he, β', st', hk, H'⟩
      cases e <;> simp at he <;> subst he
      · exact ih h2 hk β' a' w' H'
      all_goals exact ⟨_, rfl, β', st', hk, H'⟩
    · cases hc
  | cond x a b =>
    intro cc st K hc h β ac w H
    simp only [cCodeF] at hc
    split at hc
    · rename_i x' a' b' hx h1 h2
      cases hc
      rw [vcC_cond] at h
      split at h
      · rename_i t ht
        obtain ⟨hs, ht1, ht2⟩ := h
        have hv := evV_ok H hx hs
        rw [ht] at hv
        refine wpIn_cond_split (rel_bool hv) (fun e => ih h1 (ht1 e) β ac w H) (fun e => ih h2 (ht2 e) β ac w H)
      · rename_i p q ht
        obtain ⟨hs, ht1, ht2⟩ := h
        have hv := evV_ok H hx hs
        rw [ht] at hv
        obtain ⟨t, hv, e1, e2⟩ : ∃ t, ac.eval x = .bool t ∧ (t = true → p) ∧ (t = false → q) := by
          generalize ac.eval x = u at *
          cases hv with
          | d _ _ hv => cases hv with | qb t _ _ e1 e2 => exact ⟨t, rfl, e1, e2⟩
        refine wpIn_cond_split hv (fun e => ih h1 (ht1 (e1 e)) β ac w H) (fun e => ih h2 (ht2 (e2 e)) β ac w H)
      · exact h.elim
    · cases hc
  | block id x =>
    intro cc st K hc h β a w H
    simp only [cCodeF] at hc
    obtain ⟨x', h1, rfl⟩ := Option.map_eq_some_iff.1 hc
    rw [vcC_block] at h
    refine wpIn_block (wpIn_mono (ih h1 h β a w H) ?_)
    rintro e a' w' ⟨ex, he, β', st', hk, H'⟩
    cases e <;> simp at he <;> subst he
    · exact ⟨_, rfl, β', st', hk, H'⟩
    · rename_i i
      simp only [Exit.inBlock]
      rw [blkK_exit] at hk
      by_cases e : i = id
      · rw [if_pos (by omega)] at hk
        rw [if_pos e]
        exact ⟨_, rfl, β', st', hk, H'⟩
      · rw [if_neg (by omega)] at hk
        rw [if_neg e]
        exact ⟨_, rfl, β', st', hk, H'⟩
    · rw [blkK_exit, if_neg (by omega)] at hk
      exact ⟨_, rfl, β', st', hk, H'⟩
    · exact ⟨_, rfl, β', st', hk, H'⟩
  | loop x =>
    intro cc st K hc h β a w H
    simp only [cCodeF] at hc
    obtain ⟨x', h1, rfl⟩ := Option.map_eq_some_iff.1 hc
    obtain ⟨X, S, p, m, ⟨x0, hp0, hs0⟩, hr⟩ := h
    obtain ⟨β0, H0⟩ := hs0 β a w H
    refine wpIn_loop_ghost (fun n a w => ∃ x β, m x = n ∧ p x ∧ Holds c β (S x) a w) (m x0) ⟨x0, β0, rfl, hp0, H0⟩ ?_
    rintro n a w ⟨x, βx, rfl, hpx, Hx⟩
    refine wpIn_mono (ih h1 (hr x hpx) βx a w Hx) ?_
    rintro e a' w' ⟨ex, he, β', st', hk, H'⟩
    cases e <;> simp at he <;> subst he
    · rw [lopK_nrm] at hk
      obtain ⟨x1, hp1, hs1, hm1⟩ := hk
      obtain ⟨β1, H1⟩ := hs1 β' a' w' H'
      exact ⟨m x1, hm1, x1, β1, rfl, hp1, H1⟩
    all_goals
      obtain ⟨st2, hw, hk2⟩ := hk
      obtain ⟨β2, H2⟩ := hw β' a' w' H'
      exact ⟨_, rfl, β2, st2, hk2, H2⟩
  | exit id =>
    intro cc st K hc h β a w H
    simp [cCodeF] at hc; subst hc
    exact wpIn_exit ⟨_, rfl, β, st, h, H⟩
  | ret =>
    intro cc st K hc h β a w H
    simp [cCodeF] at hc; subst hc
    exact wpIn_ret ⟨_, rfl, β, st, h, H⟩
  | rangeFunc g ps asg body =>
    intro cc st K hc h β a w H
    simp only [cCodeF] at hc
    split at hc
    · rename_i x a' b' hx h1 h2
      split at hc
      · rename_i hps
        cases hc
        unfold vcC at h
        obtain ⟨gf, caps, env0, NF, n', T, J, args, O, O1, env1, hwk, hxv, hxs, hS, hI, hr, hK0, hK1⟩ := h
        obtain ⟨β0, H0⟩ := hwk β a w H
        have hJn : J.bind pendEx = none ↔ J = none := by
          cases J with
          | none => simp
          | some e =>
            cases e with
            | nrm => exact absurd rfl hS.nrm
            | exit i => simp [pendEx]
            | ret => simp [pendEx]
        have hJs : (J.bind pendEx).isSome = J.isSome := by
          cases J with
          | none => rfl
          | some e =>
            cases e with
            | nrm => exact absurd rfl hS.nrm
            | exit i => rfl
            | ret => rfl
        refine rfn_ok (J := J.bind pendEx) (args := args) (O := O) (O1 := O1) (env1 := env1) hS.rd hS.cli hS.cli1 hS.fn hS.env hS.capn hS.argn (fun k => (hS.len k).trans (by simp)) (fun p hp => by simpa using List.all_eq_true.1 hps p hp) (fun e => hS.all (hJn.1 e)) (fun e => hS.stp (fun h => e (hJn.2 h))) hI ?_ ?_ ?_ ?_ H0 hx hxv hxs
        · intro k hk cB g1 g2 g3 β1 a1 w1 HB
          refine wpIn_mono (ih (c := cB) (by rw [g1, g2]; exact h1) (hr k hk cB g1 g2 g3).1 β1 a1 w1 HB) ?_
          rintro e a2 w2 ⟨ex, he, β2, st2, hk2, H2⟩
          cases e <;> simp at he <;> subst he
          · obtain ⟨β3, H3⟩ := hk2 β2 a2 w2 H2
            exact ⟨rfl, β3, H3⟩
          all_goals exact hk2.elim
        · intro k hk cB g1 g2 g3 β1 a1 w1 HB
          refine wpIn_mono (ih (c := cB) (by rw [g1, g2]; exact h2) (hr k hk cB g1 g2 g3).2 β1 a1 w1 HB) ?_
          rintro e a2 w2 ⟨ex, he, β2, st2, hk2, H2⟩
          rw [hJs]
          cases e <;> simp at he <;> subst he
          · obtain ⟨q1, q2⟩ := hk2
            obtain ⟨β3, H3⟩ := q2 β2 a2 w2 H2
            exact ⟨.inl ⟨rfl, q1⟩, β3, H3⟩
          · obtain ⟨q1, rfl, q2⟩ := hk2
            obtain ⟨β3, H3⟩ := q2 β2 a2 w2 H2
            exact ⟨.inr ⟨by simp [pendEx], by simp [pendEx, pendOf], q1⟩, β3, H3⟩
          · obtain ⟨q1, rfl, q2⟩ := hk2
            obtain ⟨β3, H3⟩ := q2 β2 a2 w2 H2
            exact ⟨.inr ⟨by simp [pendEx], by simp [pendEx, pendOf]; omega, q1⟩, β3, H3⟩
          · obtain ⟨q1, rfl, q2⟩ := hk2
            obtain ⟨β3, H3⟩ := q2 β2 a2 w2 H2
            exact ⟨.inr ⟨by simp [pendEx], by simp [pendEx, pendOf], q1⟩, β3, H3⟩
        · intro e β1 a1 w1 H1
          exact ⟨.nrm, rfl, β1, _, hK0 (hJn.1 e), H1⟩
        · intro cd e β1 a1 w1 H1
          cases hJ : J with
          | none => rw [hJ] at e; cases e
          | some ex =>
            rw [hJ] at e
            have hk := hK1 ex hJ
            cases ex with
            | nrm => cases e
            | exit i =>
              simp only [Option.bind_some, pendEx] at e
              split at e
              · rename_i hi
                cases e
                exact wpIn_exit ⟨_, rfl, β1, _, (by rw [show 2 * (i / 2) = i by omega]; exact hk), H1⟩
              · rename_i hi
                cases e
                exact wpIn_goto ⟨_, rfl, β1, _, (by rw [show 2 * (i / 2) + 1 = i by omega]; exact hk), H1⟩
            | ret => cases e; exact wpIn_ret ⟨_, rfl, β1, _, hk, H1⟩
      · cases hc
    · cases hc
  | scope body =>
    intro cc st K hc h β a w H
    simp only [cCodeF] at hc
    split at hc
    · rename_i l hl
      split at hc
      · rename_i rest hrest
        split at hc
        · rename_i a' b' h1 h2
          cases hc
          obtain ⟨X, S, p, m, ha, hb⟩ := h
          let G : Act → World → Nat → Prop := fun ac w n => ∃ x β, m x = n ∧ p x ∧ Holds c β (S x) ac w
          let μ : Act → World → Nat := fun ac w => open Classical in if hq : ∃ n, G ac w n then Classical.choose (least_of hq) else 0
          have hμ : ∀ ac w n, G ac w n → μ ac w ≤ n ∧ G ac w (μ ac w) := by
            intro ac w n hg
            have hq : ∃ n, G ac w n := ⟨n, hg⟩
            simp only [μ, dif_pos hq]
            exact ⟨(Classical.choose_spec (least_of hq)).2 n hg, (Classical.choose_spec (least_of hq)).1⟩
          refine wpIn_scope_jumps l (fun ac w => ∃ n, G ac w n) μ hrest (wpIn_mono (ih h1 ha β a w H) ?_) ?_
          · rintro e a' w' ⟨ex, he, β', st', hk, H'⟩
            cases e <;> simp at he <;> subst he
            · exact ⟨_, rfl, β', st', hk, H'⟩
            · rw [jmpK_exit, if_neg (by omega), if_neg (by omega)] at hk
              exact ⟨_, rfl, β', st', hk, H'⟩
            · rename_i l'
              rw [jmpK_exit] at hk
              by_cases e : l' = l
              · rw [if_pos (by omega)] at hk
                obtain ⟨x, hp, hw⟩ := hk
                obtain ⟨β1, H1⟩ := hw β' a' w' H'
                exact ⟨e, m x, x, β1, rfl, hp, H1⟩
              · rw [if_neg (by omega), if_pos (by omega)] at hk
                exact hk.elim
            · exact ⟨_, rfl, β', st', hk, H'⟩
          · rintro a1 w1 ⟨n1, hg⟩
            obtain ⟨-, x, βx, hm, hp, Hx⟩ := hμ a1 w1 n1 hg
            refine wpIn_mono (ih h2 (hb x hp) βx a1 w1 Hx) ?_
            rintro e a' w' ⟨ex, he, β', st', hk, H'⟩
            cases e <;> simp at he <;> subst he
            · exact ⟨_, rfl, β', st', hk, H'⟩
            · rw [jmpK_exit, if_neg (by omega), if_neg (by omega)] at hk
              exact ⟨_, rfl, β', st', hk, H'⟩
            · rename_i l'
              rw [jmpK_exit] at hk
              by_cases e : l' = l
              · rw [if_pos (by omega)] at hk
                obtain ⟨x2, hp2, hw, hlt⟩ := hk
                obtain ⟨β1, H1⟩ := hw β' a' w' H'
                have := (hμ a' w' (m x2) ⟨x2, β1, rfl, hp2, H1⟩).1
                exact ⟨e, ⟨m x2, x2, β1, rfl, hp2, H1⟩, by omega⟩
              · rw [if_neg (by omega), if_pos (by omega)] at hk
                exact hk.elim
            · exact ⟨_, rfl, β', st', hk, H'⟩
        · cases hc
      · cases hc; exact h.elim
    · cases hc; exact h.elim
  | label =>
    intro cc st K hc h β a w H
    simp [cCodeF] at hc; subst hc
    exact wpIn_label ⟨.nrm, rfl, β, st, h, H⟩
  | goto =>
    intro cc st K hc h β a w H
    simp [cCodeF] at hc; subst hc
    exact wpIn_goto ⟨_, rfl, β, st, h, H⟩
  | refuse => intro cc st K hc h; simp [cCodeF] at hc; subst hc; exact h.elim
theorem code_ok {c : Ctx} {code : Code} {cc : C} {st : St} {K : Kont} (h : cCode c.P c.nt code = some cc) (hv : vcC c cc st K) : ∀ β a w, Holds c β st a w → code.wpIn c.F 0 c.P (PostC c K) a w := codeF_ok 64 h hv
end Go.Bx
end
