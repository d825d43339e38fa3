/-
  The engine, part 18: a region whose order is drawn comes to what it comes to in the text's order.
-/
import Derived.Test.YthkfedghiklmeaaEng17
import Derived.RegionTactic
namespace Go.Bx
open Go.RowKit

/-- Two states that say the same. -/
structure Ext (a b : St) : Prop where
  env : ∀ s, get a.env s = get b.env s
  own : ∀ k, own? a.own k = own? b.own k
  nm : ∀ k, k ∈ a.nm ↔ k ∈ b.nm

theorem Ext.refl (a : St) : Ext a a := ⟨fun _ => rfl, fun _ => rfl, fun _ => Iff.rfl⟩
theorem Ext.trans {a b c : St} (h : Ext a b) (k : Ext b c) : Ext a c := ⟨fun s => (h.env s).trans (k.env s), fun s => (h.own s).trans (k.own s), fun s => (h.nm s).trans (k.nm s)⟩
theorem Ext.symm {a b : St} (h : Ext a b) : Ext b a := ⟨fun s => (h.env s).symm, fun s => (h.own s).symm, fun s => (h.nm s).symm⟩

theorem Holds.ext {c : Ctx} {β : Names} {st st1 : St} {a : Act} {w : World} (H : Holds c β st a w) (h : Ext st st1) (hn : (keysO st1.own).Nodup) : Holds c β st1 a w := by
  have hk : ∀ k, k ∈ keysO st1.own ↔ k ∈ keysO st.own := fun k => by rw [key_iff, key_iff, h.own k]
  have hE : Eo c.E0 β st1.own = Eo c.E0 β st.own := by
    funext b
    apply propext
    unfold Eo
    simp only [hk]
  refine ⟨H.sz, H.df, fun s => by rw [hE, ← h.env s]; exact H.env s, ⟨fun k o ho => ?_, hn, fun k k' h1 h2 => H.own.apart k k' ((hk k).1 h1) ((hk k').1 h2), fun k h1 => H.own.lt k ((hk k).1 h1)⟩, fun k h1 => H.fr k ((hk k).1 h1), fun k h1 => (h.nm k).1 (H.kn k ((hk k).1 h1)), fun k h1 => H.nm k (fun h2 => h1 ((h.nm k).1 h2)), H.kp, fun k hk => ⟨(h.nm k).1 (H.fx k hk).1, (H.fx k hk).2⟩⟩
  rw [hE]
  exact H.own.ok k o (own?_mem ((h.own k).trans (mem_own? hn ho)))

/-- What a list of updates leaves of a name. -/
def lastU : List (Nat × Option Own) → Nat → Option (Option Own)
  | [], _ => none
  | (k, o) :: l, n =>
    match lastU l n with
    | some r => some r
    | none => if k = n then some o else none

theorem own?_applyU : ∀ (u : List (Nat × Option Own)) {l : List (Nat × Own)}, (keysO l).Nodup → ∀ k, own? (applyU l u) k = (match lastU u k with | some r => r | none => own? l k)
  | [], _, _, _ => rfl
  | (k0, some o) :: u, l, h, k => by
    simp only [applyU, lastU]
    rw [own?_applyU u (nodup_setO h), own?_setO]
    cases hl : lastU u k with
    | some r => rfl
    | none =>
      by_cases e : k0 = k
      · rw [if_pos e.symm, if_pos e]
      · rw [if_neg (fun x => e x.symm), if_neg e]
  | (k0, none) :: u, l, h, k => by
    simp only [applyU, lastU]
    rw [own?_applyU u (nodup_delO h), own?_delO h]
    cases hl : lastU u k with
    | some r => rfl
    | none =>
      by_cases e : k0 = k
      · rw [if_pos e.symm, if_pos e]
      · rw [if_neg (fun x => e x.symm), if_neg e]

theorem lastU_none {u : List (Nat × Option Own)} {k : Nat} (h : k ∉ u.map (·.1)) : lastU u k = none := by
  induction u with
  | nil => rfl
  | cons p u ih =>
    obtain ⟨k0, o⟩ := p
    simp only [List.map_cons, List.mem_cons, not_or] at h
    simp only [lastU, ih h.2]
    rw [if_neg (fun e => h.1 e.symm)]

theorem get_setE (env : List (Nat × V)) (d : Option Nat) (v : V) (s : Nat) : get (setE env d v) s = if d = some s then v else get env s := by
  cases d with
  | none => simp [setE]
  | some d => simp only [setE, get, Option.some.injEq]

abbrev Steps := List (Option Nat × Stp)

/-- Some of the steps, in the text's order. -/
def runS (L : Nat → Bool) : Nat → List (Option Nat × Stp) → St → St
  | _, [], st => st
  | j, (d, s) :: l, st => runS L (j + 1) l (if L j then st.stp d s else st)

theorem stp_nodup {st : St} {d : Option Nat} {s : Stp} (h : (keysO st.own).Nodup) : (keysO (st.stp d s).own).Nodup := nodup_applyU _ h

theorem runS_nodup (L : Nat → Bool) : ∀ (l : List (Option Nat × Stp)) (j : Nat) (st : St), (keysO st.own).Nodup → (keysO (runS L j l st).own).Nodup
  | [], _, _, h => h
  | (d, s) :: l, j, st, h => by
    simp only [runS]
    refine runS_nodup L l (j + 1) _ ?_
    split
    · exact stp_nodup h
    · exact h

theorem stp_ext {a b : St} (h : Ext a b) (ha : (keysO a.own).Nodup) (hb : (keysO b.own).Nodup) (d : Option Nat) (s : Stp) : Ext (a.stp d s) (b.stp d s) :=
  ⟨fun k => by simp only [St.stp, get_setE, h.env k], fun k => by simp only [St.stp, own?_applyU _ ha, own?_applyU _ hb, h.own k], fun k => by simp only [St.stp, newN_mem, h.nm k]⟩

theorem runS_ext (L : Nat → Bool) : ∀ (l : List (Option Nat × Stp)) (j : Nat) {a b : St}, Ext a b → (keysO a.own).Nodup → (keysO b.own).Nodup → Ext (runS L j l a) (runS L j l b)
  | [], _, _, _, h, _, _ => h
  | (d, s) :: l, j, a, b, h, ha, hb => by
    simp only [runS]
    split
    · exact runS_ext L l (j + 1) (stp_ext h ha hb d s) (stp_nodup ha) (stp_nodup hb)
    · exact runS_ext L l (j + 1) h ha hb

/-- Two steps that have nothing to do with each other may change places. -/
theorem stp_comm {st : St} (hn : (keysO st.own).Nodup) {d1 d2 : Option Nat} {s1 s2 : Stp} (hd : ∀ x, d1 = some x → d2 ≠ some x) (hu : ∀ k, k ∈ s1.upd.map (·.1) → k ∉ s2.upd.map (·.1)) :
    Ext ((st.stp d1 s1).stp d2 s2) ((st.stp d2 s2).stp d1 s1) := by
  refine ⟨fun k => ?_, fun k => ?_, fun k => ?_⟩
  · simp only [St.stp, get_setE]
    by_cases h1 : d1 = some k
    · have := hd k h1
      simp [h1, this]
    · simp [h1]
  · simp only [St.stp]
    rw [own?_applyU _ (nodup_applyU _ hn), own?_applyU _ hn, own?_applyU _ (nodup_applyU _ hn), own?_applyU _ hn]
    by_cases h1 : k ∈ s1.upd.map (·.1)
    · rw [lastU_none (hu k h1)]
    · rw [lastU_none h1]
  · simp only [St.stp, newN_mem]
    constructor
    · rintro ((h | h) | h)
      · exact .inl (.inl h)
      · exact .inr h
      · exact .inl (.inr h)
    · rintro ((h | h) | h)
      · exact .inl (.inl h)
      · exact .inr h
      · exact .inl (.inr h)

/-- A step, carried out behind others that have nothing to do with it. -/
theorem stp_behind (L : Nat → Bool) (d : Option Nat) (s : Stp) : ∀ (l : List (Option Nat × Stp)) (j : Nat) (st : St), (keysO st.own).Nodup →
    (∀ i d' s', l[i]? = some (d', s') → L (j + i) = true → (∀ x, d = some x → d' ≠ some x) ∧ ∀ k, k ∈ s.upd.map (·.1) → k ∉ s'.upd.map (·.1)) →
    Ext ((runS L j l st).stp d s) (runS L j l (st.stp d s))
  | [], _, st, _, _ => Ext.refl _
  | (d', s') :: l, j, st, hn, h => by
    have ht : ∀ i d2 s2, l[i]? = some (d2, s2) → L (j + 1 + i) = true → (∀ x, d = some x → d2 ≠ some x) ∧ ∀ k, k ∈ s.upd.map (·.1) → k ∉ s2.upd.map (·.1) := fun i d2 s2 hi hL => by
      have := h (i + 1) d2 s2 (by simpa using hi) (by rw [show j + (i + 1) = j + 1 + i by omega]; exact hL)
      exact this
    simp only [runS]
    by_cases hL : L j = true
    · simp only [hL, if_true]
      obtain ⟨h1, h2⟩ := h 0 d' s' (by simp) (by simpa using hL)
      refine (stp_behind L d s l (j + 1) _ (stp_nodup hn) ht).trans ?_
      refine runS_ext L l (j + 1) ?_ (stp_nodup (stp_nodup hn)) (stp_nodup (stp_nodup hn))
      refine (stp_comm hn (fun x hx => ?_) (fun k hk hk2 => ?_))
      · intro e; exact h1 x e hx
      · exact h2 k hk2 hk
    · simp only [hL]
      exact stp_behind L d s l (j + 1) st hn ht

/-- One more step among some. -/
theorem runS_more (L : Nat → Bool) {J : Nat} (hJ : L J = false) : ∀ (l : List (Option Nat × Stp)) (j : Nat) (st : St) (d : Option Nat) (s : Stp), (keysO st.own).Nodup → j ≤ J → l[J - j]? = some (d, s) →
    (∀ i d' s', J < i → l[i - j]? = some (d', s') → L i = true → (∀ x, d = some x → d' ≠ some x) ∧ ∀ k, k ∈ s.upd.map (·.1) → k ∉ s'.upd.map (·.1)) →
    Ext ((runS L j l st).stp d s) (runS (fun i => L i || i == J) j l st)
  | [], j, st, d, s, _, _, hg, _ => by simp at hg
  | (d0, s0) :: l, j, st, d, s, hn, hj, hg, h => by
    by_cases e : j = J
    · subst e
      simp at hg
      obtain ⟨rfl, rfl⟩ := hg
      simp only [runS, hJ, Bool.false_or, beq_self_eq_true, if_true, Bool.false_eq_true, if_false]
      refine (stp_behind L d0 s0 l (j + 1) st hn (fun i d' s' hi hL => h (j + 1 + i) d' s' (by omega) (by rw [show j + 1 + i - j = i + 1 by omega]; simpa using hi) hL)).trans ?_
      have : ∀ (l : List (Option Nat × Stp)) (j' : Nat) (st : St), j < j' → runS L j' l st = runS (fun i => L i || i == j) j' l st := by
        intro l
        induction l with
        | nil => intro _ _ _; rfl
        | cons p l ih =>
          intro j' st hlt
          obtain ⟨d, s⟩ := p
          simp only [runS]
          have : (j' == j) = false := by simp; omega
          simp only [this, Bool.or_false]
          exact ih (j' + 1) _ (by omega)
      rw [this l (j + 1) _ (by omega)]
      exact Ext.refl _
    · have hlt : j < J := by omega
      simp only [runS]
      have hne : (j == J) = false := by simp; exact e
      simp only [hne, Bool.or_false]
      have hg' : l[J - (j + 1)]? = some (d, s) := by
        rw [show J - j = (J - (j + 1)) + 1 by omega] at hg
        simpa using hg
      refine runS_more L hJ l (j + 1) _ d s ?_ (by omega) hg' (fun i d' s' hi hl => h i d' s' hi (by rw [show i - j = (i - (j + 1)) + 1 by omega]; simpa using hl))
      split
      · exact stp_nodup hn
      · exact hn

/-! What some of the steps leave of a slot, or a name, hangs on those that write it. -/
theorem runS_get {L1 L2 : Nat → Bool} {k : Nat} : ∀ (l : List (Option Nat × Stp)) (j : Nat) (a b : St), get a.env k = get b.env k → (∀ i d s, l[i]? = some (d, s) → d = some k → L1 (j + i) = L2 (j + i)) →
    get (runS L1 j l a).env k = get (runS L2 j l b).env k
  | [], _, _, _, h, _ => h
  | (d, s) :: l, j, a, b, h, hL => by
    simp only [runS]
    refine runS_get l (j + 1) _ _ ?_ (fun i d' s' hi hk => by have := hL (i + 1) d' s' (by simpa using hi) hk; rwa [show j + (i + 1) = j + 1 + i by omega] at this)
    by_cases hd : d = some k
    · have := hL 0 d s (by simp) hd
      simp only [Nat.add_zero] at this
      rw [this]
      split
      · simp only [St.stp, get_setE, hd, if_true]
      · exact h
    · have : ∀ (x : St), get (x.stp d s).env k = get x.env k := fun x => by simp [St.stp, get_setE, hd]
      split <;> split <;> simp only [this, h]

theorem runS_own {L1 L2 : Nat → Bool} {k : Nat} : ∀ (l : List (Option Nat × Stp)) (j : Nat) (a b : St), (keysO a.own).Nodup → (keysO b.own).Nodup → own? a.own k = own? b.own k → (∀ i d s, l[i]? = some (d, s) → k ∈ s.upd.map (·.1) → L1 (j + i) = L2 (j + i)) →
    own? (runS L1 j l a).own k = own? (runS L2 j l b).own k
  | [], _, _, _, _, _, h, _ => h
  | (d, s) :: l, j, a, b, ha, hb, h, hL => by
    simp only [runS]
    refine runS_own l (j + 1) _ _ ?_ ?_ ?_ (fun i d' s' hi hk => by have := hL (i + 1) d' s' (by simpa using hi) hk; rwa [show j + (i + 1) = j + 1 + i by omega] at this)
    · split
      · exact stp_nodup ha
      · exact ha
    · split
      · exact stp_nodup hb
      · exact hb
    by_cases hd : k ∈ s.upd.map (·.1)
    · have := hL 0 d s (by simp) hd
      simp only [Nat.add_zero] at this
      rw [this]
      split
      · simp only [St.stp, own?_applyU _ ha, own?_applyU _ hb, h]
      · exact h
    · have : ∀ (x : St), (keysO x.own).Nodup → own? (x.stp d s).own k = own? x.own k := fun x hx => by simp only [St.stp, own?_applyU _ hx, lastU_none hd]
      split <;> split <;> simp only [this _ ha, this _ hb, h]

theorem runS_nm {L : Nat → Bool} {k : Nat} : ∀ (l : List (Option Nat × Stp)) (j : Nat) (a : St), k ∈ (runS L j l a).nm ↔ k ∈ a.nm ∨ ∃ i d s o, l[i]? = some (d, s) ∧ L (j + i) = true ∧ (k, some o) ∈ s.upd
  | [], _, _ => by simp [runS]
  | (d, s) :: l, j, a => by
    simp only [runS]
    rw [runS_nm l (j + 1)]
    constructor
    · rintro (h | ⟨i, d', s', o, h1, h2, h3⟩)
      · split at h
        · rename_i hL
          simp only [St.stp, newN_mem] at h
          rcases h with h | ⟨o, h⟩
          · exact .inl h
          · exact .inr ⟨0, d, s, o, by simp, by simpa using hL, h⟩
        · exact .inl h
      · exact .inr ⟨i + 1, d', s', o, by simpa using h1, by rwa [show j + (i + 1) = j + 1 + i by omega], h3⟩
    · rintro (h | ⟨i, d', s', o, h1, h2, h3⟩)
      · left
        split
        · simp only [St.stp, newN_mem]; exact .inl h
        · exact h
      · cases i with
        | zero =>
          simp at h1
          obtain ⟨rfl, rfl⟩ := h1
          left
          simp only [Nat.add_zero] at h2
          rw [if_pos h2]
          simp only [St.stp, newN_mem]
          exact .inr ⟨o, h3⟩
        | succ i => exact .inr ⟨i, d', s', o, by simpa using h1, by rwa [show j + 1 + i = j + (i + 1) by omega], h3⟩

theorem runS_all : ∀ {c : Ctx} {st : St} {is : List I} {ss : List Stp} {st' : St}, Trace c st is ss st' → ∀ (L : Nat → Bool) (j : Nat), (∀ i, i < is.length → L (j + i) = true) → runS L j ((is.map (·.dst)).zip ss) st = st' := by
  intro c st is ss st' h
  induction h with
  | nil st => intro L j _; rfl
  | cons st i s is ss st' hv hn _ ih =>
    intro L j hL
    simp only [List.map_cons, List.zip_cons_cons, runS]
    have h0 := hL 0 (by simp)
    simp only [Nat.add_zero] at h0
    rw [if_pos h0]
    exact ih L (j + 1) (fun i hi => by have := hL (i + 1) (by simp; omega); rwa [show j + (i + 1) = j + 1 + i by omega] at this)

theorem trace_len {c : Ctx} {st : St} {is : List I} {ss : List Stp} {st' : St} (h : Trace c st is ss st') : ss.length = is.length := by
  induction h with
  | nil => rfl
  | cons _ _ _ _ _ _ _ _ _ ih => simp [ih]

theorem trace_at {c : Ctx} {st : St} {is : List I} {ss : List Stp} {st' : St} (h : Trace c st is ss st') : ∀ (j : Nat) (i : I) (s : Stp) (j0 : Nat) (L : Nat → Bool), is[j]? = some i → ss[j]? = some s → (∀ x, x < j → L (j0 + x) = true) → (∀ x, j ≤ x → L (j0 + x) = false) →
    Valid c i (runS L j0 ((is.map (·.dst)).zip ss) st) s ∧ ∀ k, k ∈ s.new → k ∉ (runS L j0 ((is.map (·.dst)).zip ss) st).nm := by
  induction h with
  | nil st => intro j i s j0 L hi; simp at hi
  | cons st i0 s0 is ss st' hv hn _ ih =>
    intro j i s j0 L hi hs h1 h2
    simp only [List.map_cons, List.zip_cons_cons, runS]
    cases j with
    | zero =>
      simp at hi hs
      subst hi; subst hs
      have h0 := h2 0 (by omega)
      simp only [Nat.add_zero] at h0
      rw [if_neg (by rw [h0]; simp)]
      have hrest : ∀ (l : List (Option Nat × Stp)) (j' : Nat), j0 ≤ j' → runS L j' l st = st := by
        intro l
        induction l with
        | nil => intro _ _; rfl
        | cons p l ih2 =>
          intro j' hj
          obtain ⟨d, s⟩ := p
          simp only [runS]
          have := h2 (j' - j0) (by omega)
          rw [show j0 + (j' - j0) = j' by omega] at this
          rw [if_neg (by rw [this]; simp)]
          exact ih2 (j' + 1) (by omega)
      rw [hrest _ (j0 + 1) (by omega)]
      exact ⟨hv, hn⟩
    | succ j =>
      simp at hi hs
      have h0 := h1 0 (by omega)
      simp only [Nat.add_zero] at h0
      rw [if_pos h0]
      exact ih j i s (j0 + 1) L hi hs (fun x hx => by have := h1 (x + 1) (by omega); rwa [show j0 + (x + 1) = j0 + 1 + x by omega] at this) (fun x hx => by have := h2 (x + 1) (by omega); rwa [show j0 + (x + 1) = j0 + 1 + x by omega] at this)

end Go.Bx
