/-
  The engine, part 19: every order that the edges let comes to the same.
-/
import Derived.Test.YthkfedghiklmeaaEng18
namespace Go.Bx
open Go.RowKit

def bnd (e : Edge) : Bool := Region.binds .any e

/-- Is i a number ahead of j, on which j hangs? -/
def inAnc (anc : List Nat) (j i : Nat) : Bool := decide (i < j) && (anc.getD j 0).testBit i

/-- The table of who hangs on whom follows from the edges. -/
def ancOk (ops : Array Oper) (anc : List Nat) : Bool :=
  (List.range ops.size).all fun j =>
    match ops[j]? with
    | none => false
    | some o => o.after.toList.all (fun e => !bnd e || decide (e.on < j)) && (List.range j).all (fun i => !(inAnc anc j i) || o.after.toList.any (fun e => bnd e && (e.on == i || inAnc anc e.on i)))

def hitS (a : I) (b : I) : Bool :=
  match a.dst with
  | some d => b.slots.contains d || b.dst == some d
  | none => false
/-- Do two instructions meet in a slot that one of them writes? -/
def meetS (a b : I) : Bool := hitS a b || hitS b a

def slotsOk (is : List I) (anc : List Nat) : Bool :=
  (List.range is.length).all fun j => (List.range j).all fun i =>
    match is[i]?, is[j]? with
    | some a, some b => !meetS a b || inAnc anc j i
    | _, _ => false

def hitL (a b : Lg) : Bool := a.wr.any fun k => b.wr.contains k || b.rd.contains k
def meetL (a b : Lg) : Bool := hitL a b || hitL b a
def ownOk (lg : List Lg) (anc : List Nat) : Bool :=
  (List.range lg.length).all fun j => (List.range j).all fun i =>
    match lg[i]?, lg[j]? with
    | some a, some b => !meetL a b || inAnc anc j i
    | _, _ => false

theorem slotsOk_at {is : List I} {anc : List Nat} (h : slotsOk is anc = true) {i j : Nat} (hij : i < j) {a b : I} (ha : is[i]? = some a) (hb : is[j]? = some b) (hm : meetS a b = true) : inAnc anc j i = true := by
  have hj : j < is.length := (List.getElem?_eq_some_iff.1 hb).1
  have := List.all_eq_true.1 (List.all_eq_true.1 h j (List.mem_range.2 hj)) i (List.mem_range.2 hij)
  simp only [ha, hb, hm, Bool.not_true, Bool.false_or] at this
  exact this

theorem ownOk_at {lg : List Lg} {anc : List Nat} (h : ownOk lg anc = true) {i j : Nat} (hij : i < j) {a b : Lg} (ha : lg[i]? = some a) (hb : lg[j]? = some b) (hm : meetL a b = true) : inAnc anc j i = true := by
  have hj : j < lg.length := (List.getElem?_eq_some_iff.1 hb).1
  have := List.all_eq_true.1 (List.all_eq_true.1 h j (List.mem_range.2 hj)) i (List.mem_range.2 hij)
  simp only [ha, hb, hm, Bool.not_true, Bool.false_or] at this
  exact this

/-- What has come up holds all that it hangs on. -/
def Shut (ops : Array Oper) (L : Nat → Bool) : Prop := ∀ j o, ops[j]? = some o → L j = true → ∀ e, e ∈ o.after.toList → bnd e = true → L e.on = true

theorem anc_listed {ops : Array Oper} {anc : List Nat} {L : Nat → Bool} (ha : ancOk ops anc = true) (hs : Shut ops L) : ∀ (j : Nat) (o : Oper), ops[j]? = some o → (∀ e, e ∈ o.after.toList → bnd e = true → L e.on = true) → ∀ i, inAnc anc j i = true → L i = true := by
  intro j
  induction j using Nat.strongRecOn with
  | _ j ih =>
    intro o ho hl i hi
    have hj : j < ops.size := (Array.getElem?_eq_some_iff.1 ho).1
    have h1 := List.all_eq_true.1 ha j (List.mem_range.2 hj)
    simp only [ho, Bool.and_eq_true] at h1
    have hij : i < j := by simp [inAnc] at hi; exact hi.1
    have h2 := List.all_eq_true.1 h1.2 i (List.mem_range.2 hij)
    simp only [hi, Bool.not_true, Bool.false_or] at h2
    obtain ⟨e, he, hb⟩ := List.any_eq_true.1 h2
    simp only [Bool.and_eq_true, Bool.or_eq_true, beq_iff_eq] at hb
    have hle := hl e he hb.1
    rcases hb.2 with h3 | h3
    · rw [← h3]; exact hle
    · have hlt : e.on < j := by
        have := List.all_eq_true.1 h1.1 e he
        simp [hb.1] at this
        exact this
      have ho' : ∃ o', ops[e.on]? = some o' := ⟨ops[e.on]'(by omega), Array.getElem?_eq_getElem (by omega)⟩
      obtain ⟨o', ho'⟩ := ho'
      exact ih e.on hlt o' ho' (fun e' he' hb' => hs e.on o' ho' hle e' he' hb') i h3

theorem ready_mem {ops : Array Oper} {listed : Array Bool} {i : Nat} (h : i ∈ Region.ready .any ops listed) :
    i < ops.size ∧ listed.getD i true = false ∧ ∃ o, ops[i]? = some o ∧ ∀ e, e ∈ o.after.toList → bnd e = true → listed.getD e.on false = true := by
  unfold Region.ready at h
  obtain ⟨h1, h2⟩ := List.mem_filter.1 h
  have hi := List.mem_range.1 h1
  simp only [Bool.and_eq_true, Bool.not_eq_true', Array.getElem?_eq_getElem hi, Option.map_some, Option.getD_some] at h2
  refine ⟨hi, h2.1, ops[i], Array.getElem?_eq_getElem hi, fun e he hb => ?_⟩
  have := Array.all_eq_true'.1 h2.2 e (Array.mem_toList_iff.1 he)
  unfold bnd at hb
  simpa [hb] using this

theorem ready_nil {ops : Array Oper} {anc : List Nat} {listed : Array Bool} (ha : ancOk ops anc = true) (hsz : listed.size = ops.size) (h : Region.ready .any ops listed = []) : ∀ j, j < ops.size → listed.getD j false = true := by
  intro j
  induction j using Nat.strongRecOn with
  | _ j ih =>
    intro hj
    cases hl : listed.getD j false with
    | true => rfl
    | false =>
      exfalso
      have h1 := List.all_eq_true.1 ha j (List.mem_range.2 hj)
      have hoj := Array.getElem?_eq_getElem hj
      simp only [hoj, Bool.and_eq_true] at h1
      have hmem : j ∈ Region.ready .any ops listed := by
        unfold Region.ready
        refine List.mem_filter.2 ⟨List.mem_range.2 hj, ?_⟩
        have hlt : listed.getD j true = false := by
          have hjl : j < listed.size := by omega
          simp [hjl] at hl ⊢
          exact hl
        simp only [hlt, hoj, Bool.not_false, Bool.true_and, Option.map_some, Option.getD_some]
        refine Array.all_eq_true'.2 fun e he => ?_
        cases hb : Region.binds .any e with
        | false => simp
        | true =>
          have := List.all_eq_true.1 h1.1 e (Array.mem_toList_iff.2 he)
          simp [bnd, hb] at this
          simp [ih e.on this (by omega)]
      rw [h] at hmem
      cases hmem

section
variable {c : Ctx}

/-- **Every order.** -/
theorem wp_any {ops : Array Oper} {is : List I} {ss : List Stp} {st st' : St} {anc : List Nat} (hT : Trace c st is ss st') (hl : ops.size = is.length) (hc : ∀ (j : Nat) (o : Oper) (i : I), ops[j]? = some o → is[j]? = some i → Cmp c ops o i)
    (ha : ancOk ops anc = true) (hsl : slotsOk is anc = true) (hol : ownOk (ss.map Stp.lg) anc = true) {Q : Exit → Act → World → Prop} (hQ : ∀ β a w, Holds c β st' a w → Q .normal a w) (hn : (keysO st.own).Nodup) :
    ∀ (fuel : Nat) (listed : Array Bool) (β : Names) (a : Act) (w : World), listed.size = ops.size → (fuel + (List.range ops.size).countP (fun j => listed.getD j false) = ops.size) → Shut ops (fun j => listed.getD j false) →
      Holds c β (runS (fun j => listed.getD j false) 0 ((is.map (·.dst)).zip ss) st) a w → wpAny c.P .any ops Q fuel listed a w := by
  have hsl2 := trace_len hT
  have hdone : ∀ (listed : Array Bool) (β : Names) (a : Act) (w : World), listed.size = ops.size → Region.ready .any ops listed = [] → Holds c β (runS (fun j => listed.getD j false) 0 ((is.map (·.dst)).zip ss) st) a w → Q .normal a w := by
    intro listed β a w hsz hr H
    have hall := ready_nil ha hsz hr
    rw [runS_all hT (fun j => listed.getD j false) 0 (fun i hi => by simpa using hall i (by omega))] at H
    exact hQ β a w H
  intro fuel
  induction fuel with
  | zero =>
    intro listed β a w hsz hf hsh H
    have hall : ∀ j, j < ops.size → listed.getD j false = true := by
      intro j hj
      have : (List.range ops.size).countP (fun j => listed.getD j false) = (List.range ops.size).length := by rw [List.length_range]; omega
      exact List.countP_eq_length.1 this j (List.mem_range.2 hj)
    have hr : Region.ready .any ops listed = [] := by
      cases h : Region.ready .any ops listed with
      | nil => rfl
      | cons x l =>
        obtain ⟨h1, h2, _⟩ := ready_mem (by rw [h]; exact List.mem_cons_self)
        have := hall x h1
        have hx : x < listed.size := by omega
        simp [hx] at h2 this
        rw [h2] at this
        cases this
    exact ⟨hr, hdone listed β a w hsz hr H⟩
  | succ fuel ih =>
    intro listed β a w hsz hf hsh H
    refine ⟨fun hr => hdone listed β a w hsz hr H, fun J hJ => ?_⟩
    obtain ⟨h1, h2, o, ho, h3⟩ := ready_mem hJ
    have hJl : J < listed.size := by omega
    have hLJ : listed.getD J false = false := by
      simp [hJl] at h2 ⊢
      exact h2
    have hJi : is[J]? = some (is[J]'(by omega)) := List.getElem?_eq_getElem (by omega)
    have hJs : ss[J]? = some (ss[J]'(by omega)) := List.getElem?_eq_getElem (by omega)
    generalize hiJ : is[J]'(by omega) = iJ at hJi
    generalize hsJ : ss[J]'(by omega) = sJ at hJs
    have hsteps : ∀ (i : Nat) (d : Option Nat) (s : Stp), ((is.map (·.dst)).zip ss)[i]? = some (d, s) → ∃ ii, is[i]? = some ii ∧ ss[i]? = some s ∧ ii.dst = d := by
      intro i d s h
      rw [List.getElem?_zip_eq_some] at h
      obtain ⟨q1, q2⟩ := h
      rw [List.getElem?_map, Option.map_eq_some_iff] at q1
      obtain ⟨ii, q3, q4⟩ := q1
      exact ⟨ii, q3, q2, q4⟩
    -- whoever is ahead and meets it has come up; whoever is behind and meets it has not
    have hahead : ∀ i, inAnc anc J i = true → listed.getD i false = true := anc_listed ha hsh J o ho h3
    have hbehind : ∀ i, inAnc anc i J = true → i < ops.size → listed.getD i false = false := by
      intro i hi hlt
      cases h : listed.getD i false with
      | false => rfl
      | true =>
        have hoi := Array.getElem?_eq_getElem hlt
        have := anc_listed ha hsh i _ hoi (fun e he hb => hsh i _ hoi h e he hb) J hi
        rw [hLJ] at this
        cases this
    have hmeet : ∀ i ii si, is[i]? = some ii → ss[i]? = some si → (meetS ii iJ = true ∨ meetL si.lg sJ.lg = true) → i ≠ J → listed.getD i false = decide (i < J) := by
      intro i ii si hi hs hm hne
      have hlt : i < ops.size := by have := (List.getElem?_eq_some_iff.1 hi).1; omega
      have hlgi : (ss.map Stp.lg)[i]? = some si.lg := by simp [hs]
      have hlgJ : (ss.map Stp.lg)[J]? = some sJ.lg := by simp [hJs]
      have hsym : ∀ x y, meetS x y = meetS y x := fun x y => by simp [meetS, Bool.or_comm]
      have hsymL : ∀ x y, meetL x y = meetL y x := fun x y => by simp [meetL, Bool.or_comm]
      by_cases hij : i < J
      · have : inAnc anc J i = true := by
          rcases hm with hm | hm
          · exact slotsOk_at hsl hij hi hJi hm
          · exact ownOk_at hol hij hlgi hlgJ hm
        rw [hahead i this]
        simp [hij]
      · have : inAnc anc i J = true := by
          rcases hm with hm | hm
          · exact slotsOk_at hsl (by omega) hJi hi (by rw [hsym]; exact hm)
          · exact ownOk_at hol (by omega) hlgJ hlgi (by rw [hsymL]; exact hm)
        rw [hbehind i this hlt]
        simp; omega
    obtain ⟨hv, hnew⟩ := trace_at hT J iJ sJ 0 (fun x => decide (x < J)) hJi hJs (fun x hx => by simp; exact hx) (fun x hx => by simp; exact hx)
    refine wpOp_step ho fun K' hK' => ?_
    refine hv _ (fun k hk => ?_) (fun k hk => ?_) (fun k hk => ?_) ops o (hc J o iJ ho hJi) β a w H Q K' fun β' a' w' H' => hK' a' w' ?_
    · -- the slots
      refine runS_get _ 0 _ _ rfl (fun i d s hi hd => ?_)
      obtain ⟨ii, q1, q2, q3⟩ := hsteps i d s hi
      simp only [Nat.zero_add]
      by_cases hne : i = J
      · subst hne; rw [hLJ]; simp
      · exact hmeet i ii s q1 q2 (.inl (by simp [meetS, hitS, q3, hd, hk])) hne
    · refine runS_own _ 0 _ _ hn hn rfl (fun i d s hi hd => ?_)
      obtain ⟨ii, q1, q2, q3⟩ := hsteps i d s hi
      simp only [Nat.zero_add]
      by_cases hne : i = J
      · subst hne; rw [hLJ]; simp
      · refine hmeet i ii s q1 q2 (.inr ?_) hne
        unfold meetL hitL
        rw [Bool.or_eq_true]
        left
        refine List.any_eq_true.2 ⟨k, by simp only [Stp.lg]; exact List.mem_append_left _ hd, ?_⟩
        simp [Stp.lg, hk]
    · -- new names
      intro hin
      rw [runS_nm] at hin
      have h0 := hnew k hk
      rw [runS_nm] at h0
      rcases hin with hin | ⟨i, d, s, ow, q0, qL, q5⟩
      · exact h0 (.inl hin)
      · obtain ⟨ii, q1, q2, q3⟩ := hsteps i d s q0
        simp only [Nat.zero_add] at qL
        by_cases hne : i = J
        · subst hne; rw [hLJ] at qL; cases qL
        · have := hmeet i ii s q1 q2 (.inr (by
            unfold meetL hitL
            rw [Bool.or_eq_true]
            left
            refine List.any_eq_true.2 ⟨k, by simp only [Stp.lg]; exact List.mem_append_left _ (List.mem_map.2 ⟨(k, some ow), q5, rfl⟩), ?_⟩
            simp [Stp.lg, hk])) hne
          rw [this] at qL
          exact h0 (.inr ⟨i, d, s, ow, q0, by simpa using qL, q5⟩)
    · -- on with the rest
      have hL' : ∀ j, (listed.setIfInBounds J true).getD j false = (listed.getD j false || j == J) := fun j => by
        simp only [Array.getD_eq_getD_getElem?, Array.getElem?_setIfInBounds]
        by_cases e : J = j
        · subst e; simp [hJl]
        · have : (j == J) = false := by simp; exact fun x => e x.symm
          simp [e, this]
      have hfun : (fun j => (listed.setIfInBounds J true).getD j false) = (fun j => listed.getD j false || j == J) := funext hL'
      refine ih (listed.setIfInBounds J true) β' a' w' (by simp [hsz]) ?_ ?_ ?_
      · rw [hfun]
        have hcount : (List.range ops.size).countP (fun j => listed.getD j false || j == J) = (List.range ops.size).countP (fun j => listed.getD j false) + 1 := by
          have : ∀ n, J < n → (List.range n).countP (fun j => listed.getD j false || j == J) = (List.range n).countP (fun j => listed.getD j false) + 1 := by
            intro n
            induction n with
            | zero => intro h; omega
            | succ n ihn =>
              intro h
              rw [List.range_succ, List.countP_append, List.countP_append]
              by_cases e : n = J
              · subst e
                have : (List.range n).countP (fun j => listed.getD j false || j == n) = (List.range n).countP (fun j => listed.getD j false) := by
                  apply List.countP_congr
                  intro x hx
                  have := List.mem_range.1 hx
                  have h5 : (x == n) = false := by simp; omega
                  simp [h5]
                rw [this, List.countP_singleton, List.countP_singleton, hLJ]
                simp
              · rw [ihn (by omega)]
                have h5 : (n == J) = false := by simp; exact e
                simp [h5]
                omega
          exact this ops.size h1
        rw [hcount]
        omega
      · intro j oj hoj hj e he hb
        simp only [hL'] at hj ⊢
        rcases Bool.or_eq_true _ _ ▸ hj with h | h
        · have := hsh j oj hoj h e he hb
          simp only at this
          rw [this]; rfl
        · simp at h
          subst h
          rw [ho] at hoj
          cases hoj
          rw [h3 e he hb]; rfl
      · rw [hfun]
        have hz : ((is.map (·.dst)).zip ss)[J - 0]? = some (iJ.dst, sJ) := by
          rw [List.getElem?_zip_eq_some]
          exact ⟨by simp [hJi], by simpa using hJs⟩
        have hmore := runS_more (fun j => listed.getD j false) hLJ ((is.map (·.dst)).zip ss) 0 st iJ.dst sJ hn (Nat.zero_le _) hz (fun i d' s' hi hg hLi => by
          obtain ⟨ii, q1, q2, q3⟩ := hsteps i d' s' (by simpa using hg)
          have hnm : ¬ (meetS ii iJ = true ∨ meetL s'.lg sJ.lg = true) := fun hm => by
            have := hmeet i ii s' q1 q2 hm (by omega)
            rw [this] at hLi
            simp at hLi
            omega
          refine ⟨fun x hx hd => hnm (.inl ?_), fun k hk hk2 => hnm (.inr ?_)⟩
          · simp [meetS, hitS, q3, hd, hx]
          · unfold meetL hitL
            rw [Bool.or_eq_true]
            left
            refine List.any_eq_true.2 ⟨k, by simp only [Stp.lg]; exact List.mem_append_left _ hk2, ?_⟩
            simp only [Stp.lg, Bool.or_eq_true]
            left
            simp only [List.contains_iff_mem]
            exact List.mem_append_left _ hk)
        exact H'.ext hmore (runS_nodup _ _ _ _ hn)

end
end Go.Bx
