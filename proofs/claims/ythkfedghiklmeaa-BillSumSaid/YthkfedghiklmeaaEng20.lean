/-
  The engine, part 20: code, compiled; its condition, by reckoning; contracts out of it.
-/
import Derived.Test.YthkfedghiklmeaaEng19
import Derived.Deep.LoopGhost
import Derived.ScopeJumps
namespace Go.Bx
open Go.RowKit

inductive C where
  | skip
  | reg (is : List I)
  | drw (anc : List Nat) (is : List I)
  | seq (a b : C)
  | cond (x : X) (a b : C)
  | block (id : Nat) (a : C)
  | loop (a : C)
  | exit (id : Nat)
  | scope (l : Nat) (a b : C)
  | ret
  | bad

/-- The first label on a code's spine. -/
def firstLabel : Code → Option Nat
  | .seq a b => match firstLabel a with | some l => some l | none => firstLabel b
  | .label l => some l
  | _ => none

def cGuard (ops : Array Oper) (o : Oper) : Option (Option (Nat × Bool)) :=
  match o.guard with
  | none => some none
  | some (j, want) =>
    match (ops[j]?).bind (·.dst) with
    | some s => some (some (s, want))
    | none => none

def cInstr (P : Program) (nt : Nat) (ops : Array Oper) (o : Oper) : Option I :=
  match cOp P o, cGuard ops o with
  | some q, some g => if (o.dst.all fun d => decide (d < nt)) = true ∧ (makes q = true → o.dst.isSome = true) ∧ (isStore q = true → o.dst = none) then some ⟨o.dst, g, q⟩ else none
  | _, _ => none

def cRegion (P : Program) (nt : Nat) (ops : Array Oper) : List Oper → Option (List I)
  | [] => some []
  | o :: l =>
    match cInstr P nt ops o, cRegion P nt ops l with
    | some i, some r => some (i :: r)
    | _, _ => none

def cCodeF (P : Program) (nt : Nat) : Nat → Code → Option C
  | 0, _ => some .bad
  | n + 1, code => match code with
    | .skip => some .skip
    | .region _ ops draw =>
      match cRegion P nt ops ops.toList with
      | some is =>
        if draw = false then some (.reg is)
        else if P.follows .mixedOrders = true ∧ ancOk ops (Region.before ops).toList = true ∧ slotsOk is (Region.before ops).toList = true then some (.drw (Region.before ops).toList is) else none
      | none => some .bad
    | .seq a b =>
      match cCodeF P nt n a, cCodeF P nt n b with
      | some a, some b => some (.seq a b)
      | _, _ => none
    | .cond x a b =>
      match cX x, cCodeF P nt n a, cCodeF P nt n b with
      | some x, some a, some b => some (.cond x a b)
      | _, _, _ => none
    | .block id a => (cCodeF P nt n a).map (.block (2 * id))
    | .loop a => (cCodeF P nt n a).map .loop
    | .exit id => some (.exit (2 * id))
    | .ret => some .ret
    | .label _ => some .skip
    | .goto l => some (.exit (2 * l + 1))
    | .scope body =>
      match firstLabel body with
      | some l =>
        match findLabel body l with
        | some rest =>
          match cCodeF P nt n body, cCodeF P nt n rest with
          | some a, some b => some (.scope (2 * l + 1) a b)
          | _, _ => none
        | none => some .bad
      | none => some .bad
    | _ => some .bad
def cCode (P : Program) (nt : Nat) (code : Code) : Option C := cCodeF P nt 64 code

inductive Ex where
  | nrm
  | exit (id : Nat)
  | ret

abbrev Kont := Ex → St → Prop

def blkK (id : Nat) (K : Kont) : Kont
  | .nrm, st => K .nrm st
  | .exit i, st => if i = id then K .nrm st else K (.exit i) st
  | .ret, st => K .ret st

def lopK {X : Type} (c : Ctx) (S : X → St) (p : X → Prop) (m : X → Nat) (x : X) (K : Kont) : Kont
  | .nrm, st => ∃ x', p x' ∧ Wk c st (S x') ∧ m x' < m x
  | .exit i, st => K (.exit i) st
  | .ret, st => K .ret st

/-- A scope with one label that is jumped to: every jump leads into one family of states. -/
def jmpK (l : Nat) (J : St → Prop) (K : Kont) : Kont
  | .nrm, st => K .nrm st
  | .exit i, st => if i = l then J st else if i % 2 = 1 then False else K (.exit i) st
  | .ret, st => K .ret st

/-- What holds behind a loop may be weakened first. -/
def wkK (c : Ctx) (K : Kont) : Kont := fun e st => ∃ st', Wk c st st' ∧ K e st'

def vcC (c : Ctx) : C → St → Kont → Prop
  | .skip, st, K => K .nrm st
  | .reg is, st, K => vcR c false is st [] (fun _ st' => K .nrm st')
  | .drw anc is, st, K => vcR c true is st [] (fun lg st' => ownOk lg anc = true ∧ K .nrm st')
  | .seq a b, st, K => vcC c a st (fun e st' => match e with | .nrm => vcC c b st' K | .exit i => K (.exit i) st' | .ret => K .ret st')
  | .cond x a b, st, K =>
    match evV st x with
    | .d (.bool t) => evS true st x ∧ (t = true → vcC c a st K) ∧ (t = false → vcC c b st K)
    | .d (.qb p q) => evS true st x ∧ (p → vcC c a st K) ∧ (q → vcC c b st K)
    | _ => False
  | .block id a, st, K => vcC c a st (blkK id K)
  | .loop a, st, K => ∃ (X : Type) (S : X → St) (p : X → Prop) (m : X → Nat), (∃ x, p x ∧ Wk c st (S x)) ∧ ∀ x, p x → vcC c a (S x) (lopK c S p m x (wkK c K))
  | .exit id, st, K => K (.exit id) st
  | .scope l a b, st, K => ∃ (X : Type) (S : X → St) (p : X → Prop) (m : X → Nat), vcC c a st (jmpK l (fun st => ∃ x, p x ∧ Wk c st (S x)) K) ∧ ∀ x, p x → vcC c b (S x) (jmpK l (fun st => ∃ x', p x' ∧ Wk c st (S x') ∧ m x' < m x) K)
  | .ret, st, K => K .ret st
  | .bad, _, _ => False

/-- What comes behind a region. -/
def nrmK (K : Kont) : List Lg → St → Prop := fun _ st => K .nrm st
def drwK (anc : List Nat) (K : Kont) : List Lg → St → Prop := fun lg st => ownOk lg anc = true ∧ K .nrm st

/-- What comes behind the first of two. -/
def seqK (c : Ctx) (b : C) (K : Kont) : Kont
  | .nrm, st => vcC c b st K
  | .exit i, st => K (.exit i) st
  | .ret, st => K .ret st

section
variable {c : Ctx} {st : St} {K : Kont}
theorem vcC_skip : vcC c .skip st K = K .nrm st := propext ⟨fun h => h, fun h => h⟩
theorem vcC_reg {is : List I} : vcC c (.reg is) st K = vcR c false is st [] (nrmK K) := propext ⟨fun h => h, fun h => h⟩
theorem vcC_drw {anc : List Nat} {is : List I} : vcC c (.drw anc is) st K = vcR c true is st [] (drwK anc K) := propext ⟨fun h => h, fun h => h⟩
theorem nrmK_app {lg : List Lg} : nrmK K lg st = K .nrm st := propext ⟨fun h => h, fun h => h⟩
theorem drwK_app {anc : List Nat} {lg : List Lg} : drwK anc K lg st = (ownOk lg anc = true ∧ K .nrm st) := propext ⟨fun h => h, fun h => h⟩
theorem vcC_seq {a b : C} : vcC c (.seq a b) st K = vcC c a st (seqK c b K) := by
  simp only [vcC]
  congr 1
  funext e st'
  cases e <;> rfl
theorem vcC_cond {x : X} {a b : C} : vcC c (.cond x a b) st K = (match evV st x with
    | .d (.bool t) => evS true st x ∧ (t = true → vcC c a st K) ∧ (t = false → vcC c b st K)
    | .d (.qb p q) => evS true st x ∧ (p → vcC c a st K) ∧ (q → vcC c b st K)
    | _ => False) := propext ⟨fun h => h, fun h => h⟩
theorem vcC_block {id : Nat} {a : C} : vcC c (.block id a) st K = vcC c a st (blkK id K) := propext ⟨fun h => h, fun h => h⟩
theorem vcC_exit {id : Nat} : vcC c (.exit id) st K = K (.exit id) st := propext ⟨fun h => h, fun h => h⟩
theorem vcC_ret : vcC c .ret st K = K .ret st := propext ⟨fun h => h, fun h => h⟩
theorem vcC_bad : vcC c .bad st K = False := propext ⟨fun h => h, fun h => h⟩
theorem seqK_nrm {b : C} : seqK c b K .nrm st = vcC c b st K := propext ⟨fun h => h, fun h => h⟩
theorem seqK_exit {b : C} {i : Nat} : seqK c b K (.exit i) st = K (.exit i) st := propext ⟨fun h => h, fun h => h⟩
theorem seqK_ret {b : C} : seqK c b K .ret st = K .ret st := propext ⟨fun h => h, fun h => h⟩
theorem blkK_nrm {id : Nat} : blkK id K .nrm st = K .nrm st := propext ⟨fun h => h, fun h => h⟩
theorem blkK_exit {id i : Nat} : blkK id K (.exit i) st = if i = id then K .nrm st else K (.exit i) st := propext ⟨fun h => h, fun h => h⟩
theorem blkK_ret {id : Nat} : blkK id K .ret st = K .ret st := propext ⟨fun h => h, fun h => h⟩
theorem lopK_nrm {X : Type} {S : X → St} {p : X → Prop} {m : X → Nat} {x : X} : lopK c S p m x K .nrm st = ∃ x', p x' ∧ Wk c st (S x') ∧ m x' < m x := propext ⟨fun h => h, fun h => h⟩
theorem lopK_exit {X : Type} {S : X → St} {p : X → Prop} {m : X → Nat} {x : X} {i : Nat} : lopK c S p m x K (.exit i) st = K (.exit i) st := propext ⟨fun h => h, fun h => h⟩
theorem lopK_ret {X : Type} {S : X → St} {p : X → Prop} {m : X → Nat} {x : X} : lopK c S p m x K .ret st = K .ret st := propext ⟨fun h => h, fun h => h⟩

theorem jmpK_nrm {l : Nat} {J : St → Prop} : jmpK l J K .nrm st = K .nrm st := propext ⟨fun h => h, fun h => h⟩
theorem jmpK_exit {l i : Nat} {J : St → Prop} : jmpK l J K (.exit i) st = if i = l then J st else if i % 2 = 1 then False else K (.exit i) st := propext ⟨fun h => h, fun h => h⟩
theorem jmpK_ret {l : Nat} {J : St → Prop} : jmpK l J K .ret st = K .ret st := propext ⟨fun h => h, fun h => h⟩
theorem jmpK_mono {l : Nat} {J : St → Prop} {K K' : Kont} (hk : ∀ e st, K e st → K' e st) : ∀ e st, jmpK l J K e st → jmpK l J K' e st := by
  intro e st h
  cases e with
  | nrm => exact hk _ _ h
  | exit i =>
    rw [jmpK_exit] at h ⊢
    split
    · rename_i hi; rw [if_pos hi] at h; exact h
    · rename_i hi
      rw [if_neg hi] at h
      split
      · rename_i h2; rw [if_pos h2] at h; exact h
      · rename_i h2; rw [if_neg h2] at h; exact hk _ _ h
  | ret => exact hk _ _ h
theorem vcC_mono : ∀ {code : C} {st : St} {K K' : Kont}, (∀ e st, K e st → K' e st) → vcC c code st K → vcC c code st K' := by
  intro code
  induction code with
  | skip => intro st K K' hk h; exact hk _ _ h
  | reg is => intro st K K' hk h; exact vcR_mono (fun _ st h => hk _ st h) h
  | drw anc is => intro st K K' hk h; exact vcR_mono (fun _ st h => ⟨h.1, hk _ st h.2⟩) h
  | seq a b iha ihb =>
    intro st K K' hk h
    rw [vcC_seq] at h ⊢
    refine iha (fun e st h => ?_) h
    cases e with
    | nrm => exact ihb hk h
    | exit i => exact hk _ _ h
    | ret => exact hk _ _ h
  | cond x a b iha ihb =>
    intro st K K' hk h
    rw [vcC_cond] at h ⊢
    split at h
    · exact ⟨h.1, fun e => iha hk (h.2.1 e), fun e => ihb hk (h.2.2 e)⟩
    · exact ⟨h.1, fun e => iha hk (h.2.1 e), fun e => ihb hk (h.2.2 e)⟩
    · exact h.elim
  | block id a ih =>
    intro st K K' hk h
    rw [vcC_block] at h ⊢
    refine ih (fun e st h => ?_) h
    cases e with
    | nrm => exact hk _ _ h
    | exit i =>
      rw [blkK_exit] at h ⊢
      split at h
      · rename_i hi; rw [if_pos hi]; exact hk _ _ h
      · rename_i hi; rw [if_neg hi]; exact hk _ _ h
    | ret => exact hk _ _ h
  | loop a ih =>
    intro st K K' hk h
    obtain ⟨X, S, p, m, hx, h⟩ := h
    refine ⟨X, S, p, m, hx, fun x hp => ih (fun e st h => ?_) (h x hp)⟩
    cases e with
    | nrm => exact h
    | exit i => obtain ⟨st', h1, h2⟩ := h; exact ⟨st', h1, hk _ _ h2⟩
    | ret => obtain ⟨st', h1, h2⟩ := h; exact ⟨st', h1, hk _ _ h2⟩
  | exit id => intro st K K' hk h; exact hk _ _ h
  | scope l a b iha ihb =>
    intro st K K' hk h
    obtain ⟨X, S, p, m, h1, h2⟩ := h
    exact ⟨X, S, p, m, iha (jmpK_mono hk) h1, fun x hp => ihb (jmpK_mono hk) (h2 x hp)⟩
  | ret => intro st K K' hk h; exact hk _ _ h
  | bad => intro st K K' hk h; exact h.elim

/-- A loop: what is known of the state at each round's head, and what each round lowers. -/
theorem vcC.loop {a : C} {X : Type} (S : X → St) (p : X → Prop) (m : X → Nat) (x0 : X) (h0 : p x0) (h1 : Wk c st (S x0)) (h : ∀ x, p x → vcC c a (S x) (lopK c S p m x K)) : vcC c (.loop a) st K :=
  ⟨X, S, p, m, ⟨x0, h0, h1⟩, fun x hp => vcC_mono (fun e st h => by
    cases e with
    | nrm => exact h
    | exit i => exact ⟨st, fun β f w H => ⟨β, H⟩, h⟩
    | ret => exact ⟨st, fun β f w H => ⟨β, H⟩, h⟩) (h x hp)⟩
/-- What holds behind a round of a loop whose ends are all told alike. -/
def lopX {X Y : Type} (c : Ctx) (S : X → St) (p : X → Prop) (m : X → Nat) (x : X) (id : Nat) (T : Y → St) (pT : Y → Prop) (K : Kont) : Kont
  | .nrm, st => ∃ x', p x' ∧ Wk c st (S x') ∧ m x' < m x
  | .exit i, st => if i = id then ∃ y, pT y ∧ Wk c st (T y) else K (.exit i) st
  | .ret, st => K .ret st
theorem lopX_nrm {X Y : Type} {S : X → St} {p : X → Prop} {m : X → Nat} {x : X} {id : Nat} {T : Y → St} {pT : Y → Prop} : lopX c S p m x id T pT K .nrm st = ∃ x', p x' ∧ Wk c st (S x') ∧ m x' < m x := propext ⟨fun h => h, fun h => h⟩
theorem lopX_exit {X Y : Type} {S : X → St} {p : X → Prop} {m : X → Nat} {x : X} {id : Nat} {T : Y → St} {pT : Y → Prop} {i : Nat} : lopX c S p m x id T pT K (.exit i) st = if i = id then ∃ y, pT y ∧ Wk c st (T y) else K (.exit i) st := propext ⟨fun h => h, fun h => h⟩
theorem lopX_ret {X Y : Type} {S : X → St} {p : X → Prop} {m : X → Nat} {x : X} {id : Nat} {T : Y → St} {pT : Y → Prop} : lopX c S p m x id T pT K .ret st = K .ret st := propext ⟨fun h => h, fun h => h⟩
/-- A loop with several ends: all of them are told by one family of states, and what comes behind is shown once. -/
theorem vcC.loopX {a : C} {id : Nat} {X Y : Type} (S : X → St) (p : X → Prop) (m : X → Nat) (x0 : X) (T : Y → St) (pT : Y → Prop) (h0 : p x0) (h1 : Wk c st (S x0)) (h : ∀ x, p x → vcC c a (S x) (lopX c S p m x id T pT K)) (hT : ∀ y, pT y → K .nrm (T y)) :
    vcC c (.loop a) st (blkK id K) :=
  ⟨X, S, p, m, ⟨x0, h0, h1⟩, fun x hp => vcC_mono (fun e st h => by
    cases e with
    | nrm => exact h
    | exit i =>
      rw [lopX_exit] at h
      by_cases hi : i = id
      · rw [if_pos hi] at h
        obtain ⟨y, h2, h3⟩ := h
        refine ⟨T y, h3, ?_⟩
        rw [blkK_exit, if_pos hi]
        exact hT y h2
      · rw [if_neg hi] at h
        refine ⟨st, fun β f w H => ⟨β, H⟩, ?_⟩
        rw [blkK_exit, if_neg hi]
        exact h
    | ret => exact ⟨st, fun β f w H => ⟨β, H⟩, h⟩) (h x hp)⟩
end

/-- Behind a piece of code. -/
def PostC (c : Ctx) (K : Kont) : Exit → Act → World → Prop := fun e a w => ∃ x, (match e with | .normal => some Ex.nrm | .exit i => some (.exit (2 * i)) | .goto l => some (.exit (2 * l + 1)) | .ret => some .ret | _ => none) = some x ∧ ∃ β st, K x st ∧ Holds c β st a w

theorem cInstr_ok {c : Ctx} {ops : Array Oper} {o : Oper} {i : I} (h : cInstr c.P c.nt ops o = some i) : Cmp c ops o i := by
  unfold cInstr at h
  split at h
  · rename_i q g hq hg
    split at h
    · rename_i hh
      cases h
      obtain ⟨h1, h2, h3⟩ := hh
      refine ⟨rfl, fun d hd => ?_, hq, h2, h3, ?_⟩
      · simp only at hd
        rw [hd] at h1
        simpa using h1
      · unfold cGuard at hg
        cases hgo : o.guard with
        | none => simp [hgo] at hg; exact hg.symm
        | some jw =>
          obtain ⟨j, want⟩ := jw
          simp only [hgo] at hg
          split at hg
          · rename_i s hs
            simp at hg
            exact ⟨s, hs, hg.symm⟩
          · cases hg
    · cases h
  · cases h

theorem cRegion_ok {c : Ctx} {ops : Array Oper} : ∀ {l : List Oper} {is : List I}, cRegion c.P c.nt ops l = some is → l.length = is.length ∧ ∀ (j : Nat) (o : Oper) (i : I), l[j]? = some o → is[j]? = some i → Cmp c ops o i
  | [], is, h => by simp [cRegion] at h; subst h; simp
  | o :: l, is, h => by
    simp only [cRegion] at h
    split at h
    · rename_i i r h1 h2
      simp at h; subst h
      obtain ⟨e, hr⟩ := cRegion_ok h2
      refine ⟨by simp [e], fun j o' i' ho hi => ?_⟩
      cases j with
      | zero => simp at ho hi; subst ho; subst hi; exact cInstr_ok h1
      | succ j => simp at ho hi; exact hr j o' i' ho hi
    · cases h

theorem Holds.drew {c : Ctx} {β : Names} {st : St} {a : Act} {w : World} (H : Holds c β st a w) (n : Nat) : Holds c β st a { w with drawn := n } := by
  have hl : Lasts (Eo c.E0 β st.own) (Eo c.E0 β st.own) w { w with drawn := n } := fun b _ h => ⟨h, rfl⟩
  exact ⟨H.sz, H.df, fun s => (H.env s).lasts' hl (Names.le.refl β), ⟨fun k o h => (H.own.ok k o h).lasts hl (Names.le.refl β) (fun _ _ => rfl), H.own.nodup, H.own.apart, H.own.lt⟩, H.fr, H.kn, H.nm, H.kp.trans ⟨rfl, rfl, rfl, Nat.le_refl _, fun _ _ _ => rfl⟩, H.fx⟩

theorem least_of {p : Nat → Prop} : (∃ n, p n) → ∃ n, p n ∧ ∀ m, p m → n ≤ m := by
  rintro ⟨n, hn⟩
  induction n using Nat.strongRecOn with
  | _ n ih =>
    by_cases h : ∃ m, m < n ∧ p m
    · obtain ⟨m, h1, h2⟩ := h
      exact ih m h1 h2
    · refine ⟨n, hn, fun m hm => ?_⟩
      by_cases h3 : m < n
      · exact absurd ⟨m, h3, hm⟩ h
      · omega
theorem codeF_ok {c : Ctx} : ∀ (n : Nat) {code : Code} {cc : C} {st : St} {K : Kont}, cCodeF c.P c.nt n code = some cc → vcC c cc st K → ∀ β a w, Holds c β st a w → code.wp c.P (PostC c K) a w := by
  intro n
  induction n with
  | zero => intro code cc st K hc h; simp [cCodeF] at hc; subst hc; exact h.elim
  | succ n ih =>
  intro code
  cases code with
  | skip =>
    intro cc st K hc h β a w H
    simp [cCodeF] at hc; subst hc
    exact wp_skip ⟨.nrm, rfl, β, st, h, H⟩
  | region id ops draw =>
    intro cc st K hc h β a w H
    simp only [cCodeF] at hc
    split at hc
    · rename_i is his
      obtain ⟨hl, hcmp⟩ := cRegion_ok his
      split at hc
      · rename_i hd
        subst hd
        cases hc
        refine wp_region_list ?_
        exact wp_walk (fun st' hk β a w H' => ⟨.nrm, rfl, β, st', hk, H'⟩) (vcR_ok h) hl hcmp β a w H
      · rename_i hd
        have hd : draw = true := by simpa using hd
        subst hd
        split at hc
        · rename_i hh
          cases hc
          obtain ⟨ss, st', hT, hk⟩ := vcR_ok h
          simp only [List.nil_append] at hk
          refine wp_region_any hh.1 ?_
          have hr0 : runS (fun j => (Array.replicate ops.size false).getD j false) 0 ((is.map (·.dst)).zip ss) st = st := by
            have : ∀ (l : List (Option Nat × Stp)) (j : Nat), runS (fun j => (Array.replicate ops.size false).getD j false) j l st = st := by
              intro l
              induction l with
              | nil => intro _; rfl
              | cons p l ih =>
                intro j
                obtain ⟨d, s⟩ := p
                simp only [runS]
                have : (Array.replicate ops.size false).getD j false = false := by
                  simp only [Array.getD_eq_getD_getElem?, Array.getElem?_replicate]
                  split <;> rfl
                rw [if_neg (by rw [this]; simp)]
                exact ih (j + 1)
            exact this _ 0
          refine wp_any (c := c) hT (by simpa using hl) (fun j o i ho hi => hcmp j o i (by simpa using ho) hi) hh.2.1 hh.2.2 hk.1 (fun β a w H' => ⟨.nrm, rfl, β, st', hk.2, H'⟩) H.own.nodup ops.size _ β a _ (by simp) ?_ ?_ (by rw [hr0]; exact H.drew _)
          · have : (List.range ops.size).countP (fun j => (Array.replicate ops.size false).getD j false) = 0 := by
              rw [List.countP_eq_zero]
              intro j hj
              have := List.mem_range.1 hj
              simp [this]
            omega
          · intro j o ho hj
            have hjl := (Array.getElem?_eq_some_iff.1 ho).1
            simp [hjl] at hj
        · cases hc
    · cases hc; exact h.elim
  | seq x y =>
    intro cc st K hc h β a w H
    simp only [cCodeF] at hc
    split at hc
    · rename_i x' y' h1 h2
      cases hc
      rw [vcC_seq] at h
      refine wp_seq (wp_mono (ih h1 h β a w H) ?_)
      rintro e a' w' ⟨ex, he, β', st', hk, H'⟩
      cases e <;> simp at he <;> subst he
      · exact ih h2 hk β' a' w' H'
      all_goals exact ⟨_, rfl, β', st', hk, H'⟩
    · cases hc
  | cond x a b =>
    intro cc st K hc h β ac w H
    simp only [cCodeF] at hc
    split at hc
    · rename_i x' a' b' hx h1 h2
      cases hc
      rw [vcC_cond] at h
      split at h
      · rename_i t ht
        obtain ⟨hs, ht1, ht2⟩ := h
        have hv := evV_ok H hx hs
        rw [ht] at hv
        refine wp_cond_split (rel_bool hv) (fun e => ih h1 (ht1 e) β ac w H) (fun e => ih h2 (ht2 e) β ac w H)
      · rename_i p q ht
        obtain ⟨hs, ht1, ht2⟩ := h
        have hv := evV_ok H hx hs
        rw [ht] at hv
        obtain ⟨t, hv, e1, e2⟩ : ∃ t, ac.eval x = .bool t ∧ (t = true → p) ∧ (t = false → q) := by
          generalize ac.eval x = u at *
          cases hv with
          | d _ _ hv => cases hv with | qb t _ _ e1 e2 => exact ⟨t, rfl, e1, e2⟩
        refine wp_cond_split hv (fun e => ih h1 (ht1 (e1 e)) β ac w H) (fun e => ih h2 (ht2 (e2 e)) β ac w H)
      · exact h.elim
    · cases hc
  | block id x =>
    intro cc st K hc h β a w H
    simp only [cCodeF] at hc
    obtain ⟨x', h1, rfl⟩ := Option.map_eq_some_iff.1 hc
    rw [vcC_block] at h
    refine wp_block (wp_mono (ih h1 h β a w H) ?_)
    rintro e a' w' ⟨ex, he, β', st', hk, H'⟩
    cases e <;> simp at he <;> subst he
    · exact ⟨_, rfl, β', st', hk, H'⟩
    · rename_i i
      simp only [Exit.inBlock]
      rw [blkK_exit] at hk
      by_cases e : i = id
      · rw [if_pos (by omega)] at hk
        rw [if_pos e]
        exact ⟨_, rfl, β', st', hk, H'⟩
      · rw [if_neg (by omega)] at hk
        rw [if_neg e]
        exact ⟨_, rfl, β', st', hk, H'⟩
    · rw [blkK_exit, if_neg (by omega)] at hk
      exact ⟨_, rfl, β', st', hk, H'⟩
    · exact ⟨_, rfl, β', st', hk, H'⟩
  | loop x =>
    intro cc st K hc h β a w H
    simp only [cCodeF] at hc
    obtain ⟨x', h1, rfl⟩ := Option.map_eq_some_iff.1 hc
    obtain ⟨X, S, p, m, ⟨x0, hp0, hs0⟩, hr⟩ := h
    obtain ⟨β0, H0⟩ := hs0 β a w H
    refine wp_loop_ghost (fun n a w => ∃ x β, m x = n ∧ p x ∧ Holds c β (S x) a w) (m x0) ⟨x0, β0, rfl, hp0, H0⟩ ?_
    rintro n a w ⟨x, βx, rfl, hpx, Hx⟩
    refine wp_mono (ih h1 (hr x hpx) βx a w Hx) ?_
    rintro e a' w' ⟨ex, he, β', st', hk, H'⟩
    cases e <;> simp at he <;> subst he
    · rw [lopK_nrm] at hk
      obtain ⟨x1, hp1, hs1, hm1⟩ := hk
      obtain ⟨β1, H1⟩ := hs1 β' a' w' H'
      exact ⟨m x1, hm1, x1, β1, rfl, hp1, H1⟩
    all_goals
      obtain ⟨st2, hw, hk2⟩ := hk
      obtain ⟨β2, H2⟩ := hw β' a' w' H'
      exact ⟨_, rfl, β2, st2, hk2, H2⟩
  | exit id =>
    intro cc st K hc h β a w H
    simp [cCodeF] at hc; subst hc
    exact wp_exit ⟨_, rfl, β, st, h, H⟩
  | ret =>
    intro cc st K hc h β a w H
    simp [cCodeF] at hc; subst hc
    exact wp_ret ⟨_, rfl, β, st, h, H⟩
  | rangeFunc => intro cc st K hc h; simp [cCodeF] at hc; subst hc; exact h.elim
  | scope body =>
    intro cc st K hc h β a w H
    simp only [cCodeF] at hc
    split at hc
    · rename_i l hl
      split at hc
      · rename_i rest hrest
        split at hc
        · rename_i a' b' h1 h2
          cases hc
          obtain ⟨X, S, p, m, ha, hb⟩ := h
          let G : Act → World → Nat → Prop := fun ac w n => ∃ x β, m x = n ∧ p x ∧ Holds c β (S x) ac w
          let μ : Act → World → Nat := fun ac w => open Classical in if hq : ∃ n, G ac w n then Classical.choose (least_of hq) else 0
          have hμ : ∀ ac w n, G ac w n → μ ac w ≤ n ∧ G ac w (μ ac w) := by
            intro ac w n hg
            have hq : ∃ n, G ac w n := ⟨n, hg⟩
            simp only [μ, dif_pos hq]
            exact ⟨(Classical.choose_spec (least_of hq)).2 n hg, (Classical.choose_spec (least_of hq)).1⟩
          refine wp_scope_jumps l (fun ac w => ∃ n, G ac w n) μ hrest (wp_mono (ih h1 ha β a w H) ?_) ?_
          · rintro e a' w' ⟨ex, he, β', st', hk, H'⟩
            cases e <;> simp at he <;> subst he
            · exact ⟨_, rfl, β', st', hk, H'⟩
            · rw [jmpK_exit, if_neg (by omega), if_neg (by omega)] at hk
              exact ⟨_, rfl, β', st', hk, H'⟩
            · rename_i l'
              rw [jmpK_exit] at hk
              by_cases e : l' = l
              · rw [if_pos (by omega)] at hk
                obtain ⟨x, hp, hw⟩ := hk
                obtain ⟨β1, H1⟩ := hw β' a' w' H'
                exact ⟨e, m x, x, β1, rfl, hp, H1⟩
              · rw [if_neg (by omega), if_pos (by omega)] at hk
                exact hk.elim
            · exact ⟨_, rfl, β', st', hk, H'⟩
          · rintro a1 w1 ⟨n1, hg⟩
            obtain ⟨-, x, βx, hm, hp, Hx⟩ := hμ a1 w1 n1 hg
            refine wp_mono (ih h2 (hb x hp) βx a1 w1 Hx) ?_
            rintro e a' w' ⟨ex, he, β', st', hk, H'⟩
            cases e <;> simp at he <;> subst he
            · exact ⟨_, rfl, β', st', hk, H'⟩
            · rw [jmpK_exit, if_neg (by omega), if_neg (by omega)] at hk
              exact ⟨_, rfl, β', st', hk, H'⟩
            · rename_i l'
              rw [jmpK_exit] at hk
              by_cases e : l' = l
              · rw [if_pos (by omega)] at hk
                obtain ⟨x2, hp2, hw, hlt⟩ := hk
                obtain ⟨β1, H1⟩ := hw β' a' w' H'
                have := (hμ a' w' (m x2) ⟨x2, β1, rfl, hp2, H1⟩).1
                exact ⟨e, ⟨m x2, x2, β1, rfl, hp2, H1⟩, by omega⟩
              · rw [if_neg (by omega), if_pos (by omega)] at hk
                exact hk.elim
            · exact ⟨_, rfl, β', st', hk, H'⟩
        · cases hc
      · cases hc; exact h.elim
    · cases hc; exact h.elim
  | label =>
    intro cc st K hc h β a w H
    simp [cCodeF] at hc; subst hc
    exact wp_label ⟨.nrm, rfl, β, st, h, H⟩
  | goto =>
    intro cc st K hc h β a w H
    simp [cCodeF] at hc; subst hc
    exact wp_goto ⟨_, rfl, β, st, h, H⟩
  | refuse => intro cc st K hc h; simp [cCodeF] at hc; subst hc; exact h.elim

theorem code_ok {c : Ctx} {code : Code} {cc : C} {st : St} {K : Kont} (h : cCode c.P c.nt code = some cc) (hv : vcC c cc st K) : ∀ β a w, Holds c β st a w → code.wp c.P (PostC c K) a w := codeF_ok 64 h hv

end Go.Bx
