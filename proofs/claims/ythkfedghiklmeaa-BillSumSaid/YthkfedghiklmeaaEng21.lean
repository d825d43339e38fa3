/-
  The engine, part 21: how states may be weakened; results; contracts out of conditions.
-/
import Derived.Test.YthkfedghiklmeaaEng20
namespace Go.Bx
open Go.RowKit

/-- Whatever reads as the one reads as the other. -/
def VLe (x y : V) : Prop := ∀ β E w v, RelV β E w v x → RelV β E w v y

theorem VLe.refl (x : V) : VLe x x := fun _ _ _ _ h => h
theorem VLe.un (x : V) : VLe x .un := fun _ _ _ _ _ => .un _
theorem VLe.trans {x y z : V} (h : VLe x y) (k : VLe y z) : VLe x z := fun β E w v hv => k β E w v (h β E w v hv)
theorem VLe.eq {x y : V} (h : x = y) : VLe x y := h ▸ VLe.refl x
theorem VLe.int {k : IntKind} {a b : Int} (h : a = b) : VLe (.d (.int k a)) (.d (.int k b)) := h ▸ VLe.refl _
theorem VLe.bool {a b : Bool} (h : a = b) : VLe (.d (.bool a)) (.d (.bool b)) := h ▸ VLe.refl _
theorem VLe.sl {full full' : Bool} {sz sz' n n' : Nat} {f f' : Nat → List D} (hn : n = n') (hz : 0 < n → sz = sz') (hb : full' = true → full = true) (hf : ∀ i, i < n → f i = f' i) : VLe (.d (.sl full sz n f)) (.d (.sl full' sz' n' f')) := by
  subst hn
  intro β E w v hv
  cases hv with
  | d _ _ hv =>
    refine .d _ _ ?_
    cases hv with
    | nil _ _ _ _ => exact .nil _ _ _ _
    | sl _ _ _ _ b off c g hc hfu hl hcell hrel =>
      rcases Nat.eq_zero_or_pos n with h0 | h0
      · subst h0
        exact .sl _ _ _ _ b off c g hc (fun h => hfu (hb h)) (fun i hi => by omega) (fun i j hi => by omega) (fun i j hi => by omega)
      · have := hz h0
        subst this
        exact .sl _ _ _ _ b off c g hc (fun h => hfu (hb h)) (fun i hi => by rw [← hf i hi]; exact hl i hi) hcell (fun i j hi hj x hx => hrel i j hi hj x (by rw [hf i hi]; exact hx))
/-- A slice that is empty, whatever its elements would be. -/
theorem VLe.nil {full full' : Bool} {sz sz' n : Nat} {f f' : Nat → List D} (hn : n = 0) (hb : full' = true → full = true) : VLe (.d (.sl full sz n f)) (.d (.sl full' sz' 0 f')) :=
  VLe.sl hn (fun h => by omega) hb (fun i hi => by omega)
theorem VLe.ag {xs ys : List V} (h : xs.length = ys.length) (hr : ∀ (j : Nat) (x y : V), xs[j]? = some x → ys[j]? = some y → VLe x y) : VLe (.ag xs) (.ag ys) := by
  intro β E w v hv
  cases hv with
  | ag arr _ h1 r1 =>
    refine .ag arr ys (h1.trans h) fun j v y hv hy => ?_
    have hj : j < xs.length := by have := (Array.getElem?_eq_some_iff.1 hv).1; omega
    exact hr j xs[j] y (List.getElem?_eq_getElem hj) hy _ _ _ _ (r1 j v xs[j] hv (List.getElem?_eq_getElem hj))
theorem VLe.tup {xs ys : List V} (h : xs.length = ys.length) (hr : ∀ (j : Nat) (x y : V), xs[j]? = some x → ys[j]? = some y → VLe x y) : VLe (.tup xs) (.tup ys) := by
  intro β E w v hv
  cases hv with
  | tup arr _ h1 r1 =>
    refine .tup arr ys (h1.trans h) fun j v y hv hy => ?_
    have hj : j < xs.length := by have := (Array.getElem?_eq_some_iff.1 hv).1; omega
    exact hr j xs[j] y (List.getElem?_eq_getElem hj) hy _ _ _ _ (r1 j v xs[j] hv (List.getElem?_eq_getElem hj))

/-- Lists, value by value. -/
def VsLe : List V → List V → Prop
  | [], [] => True
  | x :: xs, y :: ys => VLe x y ∧ VsLe xs ys
  | _, _ => False
theorem VsLe.get : ∀ {xs ys : List V}, VsLe xs ys → xs.length = ys.length ∧ ∀ (j : Nat) (x y : V), xs[j]? = some x → ys[j]? = some y → VLe x y
  | [], [], _ => ⟨rfl, fun j x y h => by simp at h⟩
  | x :: xs, y :: ys, h => by
    obtain ⟨e, hr⟩ := VsLe.get h.2
    refine ⟨by simp [e], fun j a b ha hb => ?_⟩
    cases j with
    | zero => simp at ha hb; subst ha; subst hb; exact h.1
    | succ j => simp at ha hb; exact hr j a b ha hb
  | [], _ :: _, h => h.elim
  | _ :: _, [], h => h.elim
theorem VLe.ags {xs ys : List V} (h : VsLe xs ys) : VLe (.ag xs) (.ag ys) := VLe.ag (VsLe.get h).1 (VsLe.get h).2
theorem VLe.tups {xs ys : List V} (h : VsLe xs ys) : VLe (.tup xs) (.tup ys) := VLe.tup (VsLe.get h).1 (VsLe.get h).2

/-- What is known of an own block, weakened. -/
def OLe (a b : Own) : Prop := ∀ β E w k, OwnOk β E w k a → OwnOk β E w k b
theorem OLe.refl (a : Own) : OLe a a := fun _ _ _ _ h => h
theorem OLe.eq {a b : Own} (h : a = b) : OLe a b := h ▸ OLe.refl a
theorem OLe.row {e sz n n' : Nat} {f f' : Nat → List D} (hn : n = n') (hf : ∀ i, i < n → f i = f' i) : OLe (.row e sz n f) (.row e sz n' f') := by
  subst hn
  rintro β E w k ⟨v, xs, h1, h2, h3, h4⟩
  exact ⟨v, xs, h1, h2, fun i hi => by rw [← hf i hi]; exact h3 i hi, fun i j hi hj x hx => h4 i j hi hj x (by rw [hf i hi]; exact hx)⟩
theorem OLe.fix {xs ys : List V} (h : VsLe xs ys) : OLe (.fix xs) (.fix ys) := by
  obtain ⟨hl, hr⟩ := VsLe.get h
  rintro β E w k ⟨b, arr, e, h1, h2, h3, h4⟩
  refine ⟨b, arr, e, h1, h2, h3.trans hl, fun j v y hv hy => ?_⟩
  have hj : j < xs.length := by have := (Array.getElem?_eq_some_iff.1 hv).1; omega
  exact hr j xs[j] y (List.getElem?_eq_getElem hj) hy _ _ _ _ (h4 j v xs[j] hv (List.getElem?_eq_getElem hj))

/-- The slots of a state, in another one. -/
def EnvLe (a : List (Nat × V)) : List (Nat × V) → Prop
  | [] => True
  | (s, y) :: l => VLe (get a s) y ∧ EnvLe a l
theorem EnvLe.get : ∀ {a b : List (Nat × V)}, EnvLe a b → ∀ s, VLe (Go.Bx.get a s) (Go.Bx.get b s)
  | a, [], _, s => VLe.un _
  | a, (s', y) :: l, h, s => by
    simp only [Go.Bx.get]
    split
    · rename_i e; subst e; exact h.1
    · exact EnvLe.get h.2 s

def OwnLe (a : List (Nat × Own)) : List (Nat × Own) → Prop
  | [] => True
  | (k, o) :: l => (∃ o', own? a k = some o' ∧ OLe o' o) ∧ OwnLe a l
theorem OwnLe.get : ∀ {a b : List (Nat × Own)}, OwnLe a b → ∀ k o, (k, o) ∈ b → ∃ o', own? a k = some o' ∧ OLe o' o
  | _, [], _, k, o, h => by simp at h
  | a, (k', o') :: l, h, k, o, hm => by
    rcases List.mem_cons.1 hm with hm | hm
    · simp at hm; obtain ⟨rfl, rfl⟩ := hm; exact h.1
    · exact OwnLe.get h.2 k o hm

/-- A value's names that are bound to nothing are shut out: what reads so has its names bound. -/
theorem RelV.forget {β β' : Names} {E E' : Nat → Prop} {w w' : World} (hl : Lasts E E' w w') {v : Value} {x : V} (h : RelV β E w v x) (hn : ∀ k, k ∈ x.names → β' k = β k) : RelV β' E' w' v x := h.lasts hl hn

/-- **A state may be weakened**: less is said of slots and own blocks, names are forgotten (but those that the context holds fast). -/
theorem Wk.mk {c : Ctx} {a b : St} (he : EnvLe a.env b.env) (ho : OwnLe a.own b.own) (hnd : (keysO b.own).Nodup) (hk : ∀ k, k ∈ keysO b.own → k ∈ b.nm) (hfx : ∀ k, k ∈ c.fn → k ∈ b.nm)
    (hv : ∀ s y, (s, y) ∈ b.env → ∀ k, k ∈ y.names → k ∈ b.nm) (hov : ∀ k o, (k, o) ∈ b.own → ∀ j, j ∈ (match o with | .fix cs => namesL cs | .lit _ _ cs => namesL cs | .row _ _ _ _ => []) → j ∈ b.nm) : Wk c a b := by
  intro β f w H
  let β' : Names := fun k => if k ∈ b.nm then β k else none
  have hβ : ∀ k, k ∈ b.nm → β' k = β k := fun k h => if_pos h
  have hkeys : ∀ k, k ∈ keysO b.own → k ∈ keysO a.own := fun k h => by
    obtain ⟨o, ho'⟩ := keys_mem h
    obtain ⟨o', h1, _⟩ := OwnLe.get ho k o ho'
    exact mem_keys (own?_mem h1)
  have hblk : ∀ k, k ∈ keysO b.own → β'.blk k = β.blk k := fun k h => by simp only [Names.blk, hβ k (hk k h)]
  have hl : Lasts (Eo c.E0 β a.own) (Eo c.E0 β' b.own) w w := by
    intro x _ hx
    refine ⟨?_, rfl⟩
    rintro (h | ⟨k, h1, h2⟩)
    · exact hx (.inl h)
    · rw [hblk k h1] at h2; exact hx (.inr ⟨k, hkeys k h1, h2⟩)
  have hgn : ∀ s k, k ∈ (Go.Bx.get b.env s).names → k ∈ b.nm := by
    intro s k
    have : ∀ (l : List (Nat × V)), (∀ s y, (s, y) ∈ l → ∀ k, k ∈ y.names → k ∈ b.nm) → k ∈ (Go.Bx.get l s).names → k ∈ b.nm := by
      intro l
      induction l with
      | nil => intro _ h; simp [Go.Bx.get, V.names] at h
      | cons p l ih =>
        obtain ⟨s', y⟩ := p
        intro hl h
        simp only [Go.Bx.get] at h
        split at h
        · exact hl s' y (by simp) k h
        · exact ih (fun s y hm => hl s y (by simp [hm])) h
    exact this b.env hv
  refine ⟨β', H.sz, H.df, fun s => ?_, ⟨fun k o hm => ?_, hnd, ?_, ?_⟩, fun k h x hx => H.fr k (hkeys k h) x (by rw [← hblk k h]; exact hx), hk, fun k h => if_neg h, H.kp, fun k h => ⟨hfx k h, (hβ k (hfx k h)).trans (H.fx k h).2⟩⟩
  · exact (EnvLe.get he s _ _ _ _ (H.env s)).lasts hl (fun k hk => hβ k (hgn s k hk))
  · obtain ⟨o', h1, h2⟩ := OwnLe.get ho k o hm
    have h3 := h2 _ _ _ _ (own_ok H h1)
    have hkk := hβ k (hk k (mem_keys hm))
    cases o with
    | fix cs =>
      obtain ⟨bb, arr, e, g1, g2, g3, g4⟩ := h3
      exact ⟨bb, arr, e, hkk.trans g1, g2, g3, fun j v x hv' hx => (g4 j v x hv' hx).lasts hl (fun n hn => hβ n (hov k _ hm n (names_mem hx n hn)))⟩
    | row e sz n ff =>
      obtain ⟨v, xs, g1, g2, g3, g4⟩ := h3
      exact ⟨v, xs, hkk.trans g1, g2, g3, fun i j hi hj x hx => by obtain ⟨u, q1, q2⟩ := g4 i j hi hj x hx; exact ⟨u, q1, q2.lasts hl⟩⟩
    | lit sz n cs =>
      obtain ⟨bb, arr, e, cap, g1, g0, gc, g2, g3, g5, g4⟩ := h3
      exact ⟨bb, arr, e, cap, hkk.trans g1, g0, gc, g2, g3, g5, fun j v x hv' hx => (g4 j v x hv' hx).lasts hl (fun n hn => hβ n (hov k _ hm n (names_mem hx n hn)))⟩
  · intro k k' h1 h2 hne x hx hx'
    rw [hblk k h1] at hx
    rw [hblk k' h2] at hx'
    exact H.own.apart k k' (hkeys k h1) (hkeys k' h2) hne x hx hx'
  · intro k h1 x hx
    rw [hblk k h1] at hx
    exact H.own.lt k (hkeys k h1) x hx

theorem Wk.refl (c : Ctx) (a : St) : Wk c a a := fun β _ _ H => ⟨β, H⟩
theorem Wk.trans {c : Ctx} {a b d : St} (h : Wk c a b) (k : Wk c b d) : Wk c a d := fun β f w H => by
  obtain ⟨β', H'⟩ := h β f w H
  exact k β' f w H'

def envNames : List (Nat × V) → List Nat
  | [] => []
  | (_, v) :: l => v.names ++ envNames l
def oNames : List (Nat × Own) → List Nat
  | [] => []
  | (k, .fix cs) :: l => k :: (namesL cs ++ oNames l)
  | (k, .lit _ _ cs) :: l => k :: (namesL cs ++ oNames l)
  | (k, .row _ _ _ _) :: l => k :: oNames l
def nodupB : List Nat → Bool
  | [] => true
  | k :: l => !l.contains k && nodupB l
theorem nodupB_ok : ∀ {l : List Nat}, nodupB l = true → l.Nodup
  | [], _ => by simp
  | k :: l, h => by
    simp only [nodupB, Bool.and_eq_true, Bool.not_eq_true'] at h
    rw [List.nodup_cons]
    refine ⟨fun hm => ?_, nodupB_ok h.2⟩
    have : l.contains k = true := by simpa using hm
    rw [h.1] at this
    cases this
/-- What a state that is weakened to must be, by its form alone. -/
def wkB (fn : List Nat) (b : St) : Bool := fn.all (b.nm.contains ·) && (nodupB (keysO b.own) && ((envNames b.env).all (b.nm.contains ·) && (oNames b.own).all (b.nm.contains ·)))

theorem oNames_in : ∀ {l : List (Nat × Own)} {k : Nat} {o : Own}, (k, o) ∈ l → k ∈ oNames l ∧ ∀ j, j ∈ (match o with | .fix cs => namesL cs | .lit _ _ cs => namesL cs | .row _ _ _ _ => []) → j ∈ oNames l
  | [], k, o, h => by simp at h
  | (k', o') :: l, k, o, h => by
    rcases List.mem_cons.1 h with h | h
    · simp at h
      obtain ⟨rfl, rfl⟩ := h
      cases o <;> simp only [oNames, List.mem_cons, List.mem_append, true_or, true_and] <;> intro j hj
      · exact .inr (.inl hj)
      · simp at hj
      · exact .inr (.inl hj)
    · obtain ⟨h1, h2⟩ := oNames_in h
      cases o' <;> simp only [oNames, List.mem_cons, List.mem_append]
      · exact ⟨.inr (.inr h1), fun j hj => .inr (.inr (h2 j hj))⟩
      · exact ⟨.inr h1, fun j hj => .inr (h2 j hj)⟩
      · exact ⟨.inr (.inr h1), fun j hj => .inr (.inr (h2 j hj))⟩

theorem envNames_in : ∀ {l : List (Nat × V)} {s : Nat} {y : V}, (s, y) ∈ l → ∀ k, k ∈ y.names → k ∈ envNames l
  | [], s, y, h => by simp at h
  | (s', y') :: l, s, y, h => fun k hk => by
    simp only [envNames, List.mem_append]
    rcases List.mem_cons.1 h with h | h
    · simp at h; exact .inl (h.2 ▸ hk)
    · exact .inr (envNames_in h k hk)

theorem Wk.of {c : Ctx} {a b : St} (fn : List Nat) (hfn : c.fn = fn) (hB : wkB fn b = true) (he : EnvLe a.env b.env) (ho : OwnLe a.own b.own) : Wk c a b := by
  simp only [wkB, Bool.and_eq_true, List.all_eq_true, List.contains_iff_mem] at hB
  obtain ⟨h1, h2, h3, h4⟩ := hB
  exact Wk.mk he ho (nodupB_ok h2) (fun k hk => by obtain ⟨o, ho'⟩ := keys_mem hk; exact h4 k (oNames_in ho').1) (fun k hk => h1 k (hfn ▸ hk)) (fun s y hm k hk => h3 k (envNames_in hm k hk)) (fun k o hm j hj => h4 j ((oNames_in hm).2 j hj))

theorem VLe_refl (x : V) : VLe x x = True := eq_true (VLe.refl x)
theorem VLe_un (x : V) : VLe x .un = True := eq_true (VLe.un x)
theorem OLe_refl (x : Own) : OLe x x = True := eq_true (OLe.refl x)

/-- A nil slice begins a row of the call's own. -/
theorem Wk.row0 {c : Ctx} {a : St} {s k e sz : Nat} {full : Bool} {sz' : Nat} {f : Nat → List D} {f' : Nat → List D} (hs : get a.env s = .d (.sl full sz' 0 f)) (hfull : full = true) (hk : k ∉ a.nm) :
    Wk c a ⟨(s, .osl k) :: a.env, setO a.own k (.row e sz 0 f'), k :: a.nm⟩ := by
  intro β fr w H
  have hr := H.env s
  rw [hs] at hr
  subst hfull
  generalize hu : fr.tmps.getD s undef = u at *
  have hform : ∃ A, u = .slice A 0 0 := by
    cases hr with
    | d _ _ hr =>
      cases hr with
      | nil _ _ _ _ => exact ⟨_, rfl⟩
      | sl _ _ _ _ b off c g hc hf _ _ _ => have := hf rfl; subst this; exact ⟨_, rfl⟩
  obtain ⟨A, rfl⟩ := hform
  obtain ⟨β', hβ, hb, H'⟩ := H.addOwn (w' := w) (k := k) (val := .slice A 0 0) (ow := .row e sz 0 f') (Keeps.refl _ w) hk (fun b hb => by cases A <;> simp [blkOf] at hb)
    (fun β' E' _ hb _ => ⟨_, [], hb, ⟨by simp, .inl ⟨⟨A, rfl⟩, rfl⟩⟩, fun i hi => by omega, fun i j hi => by omega⟩)
  refine ⟨β', H'.sz, H'.df, fun s' => ?_, H'.own, H'.fr, H'.kn, H'.nm, H'.kp, H'.fx⟩
  simp only [get]
  split
  · rename_i e'; subst e'; rw [hu]; exact .osl _ _ hb rfl
  · exact H'.env s'

/-- A name, renamed. -/
theorem Wk.ren {c : Ctx} {a : St} {k k' : Nat} {o : Own} {ss : List Nat} (ho : own? a.own k = some o) (hk : k' ∉ a.nm) (hs : ∀ s, s ∈ ss → get a.env s = .osl k) :
    Wk c a ⟨(ss.map fun s => (s, V.osl k')) ++ a.env, setO (delO a.own k) k' o, k' :: a.nm⟩ := by
  intro β fr w H
  have hok := own_ok H ho
  obtain ⟨v, hv⟩ := hok.key
  obtain ⟨β', hβ, hb, H'⟩ := H.replOwn (w' := w) (k0 := k) (k := k') (val := v) (ow := o) (mem_keys (own?_mem ho)) hk (Keeps.refl _ w) (fun b hb => .inl (by simp [Names.blk, hv, hb]))
    (fun β' E' hβ hb hl => by
      cases o with
      | fix cs =>
        obtain ⟨bb, arr, e, g1, g2, g3, g4⟩ := hok
        rw [hv] at g1
        exact ⟨bb, arr, e, hb.trans g1, g2, g3, fun j v x hv' hx => (g4 j v x hv' hx).lasts' hl hβ⟩
      | row e sz n ff =>
        obtain ⟨v', xs, g1, g2, g3, g4⟩ := hok
        rw [hv] at g1; cases g1
        exact ⟨v, xs, hb, g2, g3, fun i j hi hj x hx => by obtain ⟨u, q1, q2⟩ := g4 i j hi hj x hx; exact ⟨u, q1, q2.lasts hl⟩⟩
      | lit sz n cs =>
        obtain ⟨bb, arr, e, cap, g1, g0, gc, g2, g3, g5, g4⟩ := hok
        rw [hv] at g1
        exact ⟨bb, arr, e, cap, hb.trans g1, g0, gc, g2, g3, g5, fun j v x hv' hx => (g4 j v x hv' hx).lasts' hl hβ⟩)
  refine ⟨β', H'.sz, H'.df, fun s' => ?_, H'.own, H'.fr, H'.kn, H'.nm, H'.kp, H'.fx⟩
  have : ∀ (l : List Nat), (∀ s, s ∈ l → get a.env s = .osl k) → RelV β' (Eo c.E0 β' (setO (delO a.own k) k' o)) w (fr.tmps.getD s' undef) (get ((l.map fun s => (s, V.osl k')) ++ a.env) s') := by
    intro l
    induction l with
    | nil => intro _; exact H'.env s'
    | cons s l ih =>
      intro hl
      simp only [List.map_cons, List.cons_append, get]
      split
      · rename_i e'
        subst e'
        have h1 := H.env s
        rw [hl s (by simp)] at h1
        generalize fr.tmps.getD s undef = u at *
        cases h1 with
        | osl _ _ h2 h3 => rw [hv] at h2; cases h2; exact .osl _ _ hb h3
      · exact ih (fun s hs => hl s (by simp [hs]))
  exact this ss hs

mutual
/-- A row of the call's own is handed on as it stands: from now on it is data. -/
def pubV (k : Nat) (x : D) : V → V
  | .osl k' => if k' = k then .d x else .osl k'
  | .ag cs => .ag (pubL k x cs)
  | .tup cs => .tup (pubL k x cs)
  | .un => .un
  | .d y => .d y
  | .mem cs => .mem cs
  | .own k' off => .own k' off
  | .osub k' sz lo n => .osub k' sz lo n
  | .optr k' sz i off => .optr k' sz i off
  | .fn f a b => .fn f a b
  | .ifc t v => .ifc t v
  | .gd c v => .gd c v
def pubL (k : Nat) (x : D) : List V → List V
  | [] => []
  | v :: l => pubV k x v :: pubL k x l
end
def pubE (k : Nat) (x : D) : List (Nat × V) → List (Nat × V)
  | [] => []
  | (s, v) :: l => (s, pubV k x v) :: pubE k x l
def pubO (k : Nat) (x : D) : List (Nat × Own) → List (Nat × Own)
  | [] => []
  | (k', .fix cs) :: l => (k', .fix (pubL k x cs)) :: pubO k x l
  | (k', .lit sz n cs) :: l => (k', .lit sz n (pubL k x cs)) :: pubO k x l
  | (k', .row e sz n f) :: l => (k', .row e sz n f) :: pubO k x l

theorem pubL_eq (k : Nat) (x : D) (l : List V) : pubL k x l = l.map (pubV k x) := by
  induction l with
  | nil => rfl
  | cons v l ih => simp [pubL, ih]
def pubO1 (k : Nat) (x : D) : Own → Own
  | .fix cs => .fix (pubL k x cs)
  | .lit sz n cs => .lit sz n (pubL k x cs)
  | .row e sz n f => .row e sz n f
theorem pubO_eq (k : Nat) (x : D) (l : List (Nat × Own)) : pubO k x l = l.map fun p => (p.1, pubO1 k x p.2) := by
  induction l with
  | nil => rfl
  | cons p l ih =>
    obtain ⟨k', o⟩ := p
    cases o <;> simp [pubO, pubO1, ih]

theorem RelV.pub {β : Names} {E E' : Nat → Prop} {w : World} {k : Nat} {x : D} (hl : Lasts E E' w w) (hk : ∀ u, β k = some u → RelD E' w u x) {v : Value} {y : V} (h : RelV β E w v y) : RelV β E' w v (pubV k x y) := by
  induction h with
  | osl k' v h h1 =>
    simp only [pubV]
    split
    · rename_i e; subst e; exact .d _ _ (hk _ h)
    · exact .osl _ _ h h1
  | ag arr cs h1 r1 ih =>
    simp only [pubV, pubL_eq]
    refine .ag _ _ (by simpa using h1) fun j v y hv hy => ?_
    rw [List.getElem?_map] at hy
    obtain ⟨y0, hy0, rfl⟩ := Option.map_eq_some_iff.1 hy
    exact ih j v y0 hv hy0
  | tup arr cs h1 r1 ih =>
    simp only [pubV, pubL_eq]
    refine .tup _ _ (by simpa using h1) fun j v y hv hy => ?_
    rw [List.getElem?_map] at hy
    obtain ⟨y0, hy0, rfl⟩ := Option.map_eq_some_iff.1 hy
    exact ih j v y0 hv hy0
  | un v => exact .un v
  | d v y h => exact .d v y (h.lasts hl)
  | mem cs b off g hcell hrel => exact (RelV.mem (β := β) cs b off g hcell hrel).lasts' hl (Names.le.refl β)
  | own k' off b h => exact .own k' off b h
  | osub k' sz lo n b m c a h h1 h2 => exact .osub k' sz lo n b m c a h h1 h2
  | osub0 k' sz A h => exact .osub0 k' sz A h
  | optr k' sz i off b m c h => exact .optr k' sz i off b m c h
  | fn f fi ca first cap h1 h2 r1 r2 _ _ => exact (RelV.fn (β := β) f fi ca first cap h1 h2 r1 r2).lasts' hl (Names.le.refl β)
  | ifc t v y h _ => exact (RelV.ifc (β := β) t v y h).lasts' hl (Names.le.refl β)
  | gd c v y h h' _ => exact (RelV.gd (β := β) c v y h h').lasts' hl (Names.le.refl β)

theorem Wk.pub {c : Ctx} {a : St} (k : Nat) {e sz n : Nat} {f : Nat → List D} (ho : own? a.own k = some (.row e sz n f)) : Wk c a ⟨pubE k (.sl false sz n f) a.env, pubO k (.sl false sz n f) (delO a.own k), a.nm⟩ := by
  intro β fr w H
  have hkk := mem_keys (own?_mem ho)
  have hdel := fun k1 => keys_delO (l := a.own) (k := k) H.own.nodup k1
  obtain ⟨v, xs, hv, hrow, hfl, hfr⟩ := own_ok H ho
  have hkp : keysO (pubO k (.sl false sz n f) (delO a.own k)) = keysO (delO a.own k) := by
    rw [pubO_eq]; simp [keysO]
  have hEe : Eo c.E0 β (pubO k (.sl false sz n f) (delO a.own k)) = Eo c.E0 β (delO a.own k) := by
    unfold Eo; rw [hkp]
  have hE : ∀ x, Eo c.E0 β (delO a.own k) x → Eo c.E0 β a.own x := by
    rintro x (h | ⟨k1, h1, h2⟩)
    · exact .inl h
    · exact .inr ⟨k1, ((hdel k1).1 h1).1, h2⟩
  have hl : Lasts (Eo c.E0 β a.own) (Eo c.E0 β (delO a.own k)) w w := fun x _ hx => ⟨fun h => hx (hE x h), rfl⟩
  have hd : RelD (Eo c.E0 β (delO a.own k)) w v (.sl false sz n f) := by
    rcases hrow.2 with ⟨⟨A, rfl⟩, rfl⟩ | ⟨g, cap, cur, rfl, hc0, hh, hnc, hcm, hcs, htk⟩
    · exact .nil _ _ _ _
    · refine .sl _ _ _ _ g 0 cap (fun i j => cur.getD (i * sz + j) undef) hnc (fun h => by cases h) hfl (fun i j hi hj => ⟨?_, ?_⟩) (fun i j hi hj x hx => ?_)
      · rintro (h | ⟨k1, h1, h2⟩)
        · exact (H.own.lt k hkk g (by simp [Names.blk, hv, blkOf]; omega)).2 h
        · obtain ⟨h3, h4⟩ := (hdel k1).1 h1
          exact H.own.apart k1 k h3 hkk h4 g h2 (by simp [Names.blk, hv, blkOf]; omega)
      · have hlt : i * sz + j < n * sz := by
          have : (i + 1) * sz ≤ n * sz := Nat.mul_le_mul_right _ hi
          rw [Nat.add_mul] at this; omega
        have hlt2 : i * sz + j < cur.size := by
          have : n * sz ≤ cap * sz := Nat.mul_le_mul_right _ hnc
          omega
        rw [Nat.zero_add, cell_of_row w g _ cur e (0, 0) hh]
        simp [hlt2]
      · obtain ⟨u, q1, q2⟩ := hfr i j hi hj x hx
        have hlt : i * sz + j < n * sz := by
          have : (i + 1) * sz ≤ n * sz := Nat.mul_le_mul_right _ hi
          rw [Nat.add_mul] at this; omega
        have : cur[i * sz + j]? = some u := by
          rw [← q1, ← htk, List.getElem?_take, if_pos hlt]; simp
        simp only [Array.getD_eq_getD_getElem?, this, Option.getD_some]
        exact q2.lasts hl
  have hpub : ∀ {u : Value} {y : V}, RelV β (Eo c.E0 β a.own) w u y → RelV β (Eo c.E0 β (pubO k (.sl false sz n f) (delO a.own k))) w u (pubV k (.sl false sz n f) y) := fun h => by
    rw [hEe]
    exact h.pub hl (fun u hu => by rw [hv] at hu; cases hu; exact hd)
  refine ⟨β, H.sz, H.df, fun s => ?_, ⟨fun k1 o1 h1 => ?_, by rw [hkp]; exact nodup_delO H.own.nodup, fun k1 k2 h1 h2 => H.own.apart k1 k2 ((hdel k1).1 (hkp ▸ h1)).1 ((hdel k2).1 (hkp ▸ h2)).1, fun k1 h1 => H.own.lt k1 ((hdel k1).1 (hkp ▸ h1)).1⟩, fun k1 h1 => H.fr k1 ((hdel k1).1 (hkp ▸ h1)).1, fun k1 h1 => H.kn k1 ((hdel k1).1 (hkp ▸ h1)).1, H.nm, H.kp, H.fx⟩
  · have : ∀ (l : List (Nat × V)), get (pubE k (.sl false sz n f) l) s = pubV k (.sl false sz n f) (get l s) := by
      intro l
      induction l with
      | nil => simp [pubE, get, pubV]
      | cons p l ih =>
        obtain ⟨s', y⟩ := p
        simp only [pubE, get]
        split
        · rfl
        · exact ih
    simp only [this]
    exact hpub (H.env s)
  · rw [pubO_eq, List.mem_map] at h1
    obtain ⟨⟨k2, o2⟩, h2, h3⟩ := h1
    simp only [Prod.mk.injEq] at h3
    obtain ⟨rfl, rfl⟩ := h3
    have hok := H.own.ok k2 o2 (mem_delO h2)
    cases o2 with
    | fix cs =>
      obtain ⟨b, arr, e', g1, g2, g3, g4⟩ := hok
      refine ⟨b, arr, e', g1, g2, by simpa [pubL_eq] using g3, fun j v x hv' hx => ?_⟩
      rw [pubL_eq, List.getElem?_map] at hx
      obtain ⟨y, hy, rfl⟩ := Option.map_eq_some_iff.1 hx
      exact hpub (g4 j v y hv' hy)
    | row e' sz' n' ff => rw [hEe]; exact hok.lasts hl (Names.le.refl β) (fun _ _ => rfl)
    | lit sz' n' cs =>
      obtain ⟨b, arr, e', cap, g1, g0, gc, g2, g3, g5, g4⟩ := hok
      refine ⟨b, arr, e', cap, g1, g0, gc, g2, by simpa [pubL_eq] using g3, by simpa [pubL_eq] using g5, fun j v x hv' hx => ?_⟩
      rw [pubL_eq, List.getElem?_map] at hx
      obtain ⟨y, hy, rfl⟩ := Option.map_eq_some_iff.1 hx
      exact hpub (g4 j v y hv' hy)

/-- A row of the call's own is given up: from now on it is data, and its name stays bound. -/
theorem Holds.drop {c : Ctx} {β : Names} {a : St} {fr : Act} {w : World} (H : Holds c β a fr w) (k : Nat) {e sz n : Nat} {f : Nat → List D} (ho : own? a.own k = some (.row e sz n f)) :
    Lasts (Eo c.E0 β a.own) (Eo c.E0 β (delO a.own k)) w w ∧ (∀ u, β k = some u → RelD (Eo c.E0 β (delO a.own k)) w u (.sl false sz n f)) ∧ Holds c β ⟨a.env, delO a.own k, a.nm⟩ fr w := by
  have hkk := mem_keys (own?_mem ho)
  have hdel := fun k1 => keys_delO (l := a.own) (k := k) H.own.nodup k1
  obtain ⟨v, xs, hv, hrow, hfl, hfr⟩ := own_ok H ho
  have hE : ∀ x, Eo c.E0 β (delO a.own k) x → Eo c.E0 β a.own x := by
    rintro x (h | ⟨k1, h1, h2⟩)
    · exact .inl h
    · exact .inr ⟨k1, ((hdel k1).1 h1).1, h2⟩
  have hl : Lasts (Eo c.E0 β a.own) (Eo c.E0 β (delO a.own k)) w w := fun x _ hx => ⟨fun h => hx (hE x h), rfl⟩
  have hd : RelD (Eo c.E0 β (delO a.own k)) w v (.sl false sz n f) := by
    rcases hrow.2 with ⟨⟨A, rfl⟩, rfl⟩ | ⟨g, cap, cur, rfl, hc0, hh, hnc, hcm, hcs, htk⟩
    · exact .nil _ _ _ _
    · refine .sl _ _ _ _ g 0 cap (fun i j => cur.getD (i * sz + j) undef) hnc (fun h => by cases h) hfl (fun i j hi hj => ⟨?_, ?_⟩) (fun i j hi hj x hx => ?_)
      · rintro (h | ⟨k1, h1, h2⟩)
        · exact (H.own.lt k hkk g (by simp [Names.blk, hv, blkOf]; omega)).2 h
        · obtain ⟨h3, h4⟩ := (hdel k1).1 h1
          exact H.own.apart k1 k h3 hkk h4 g h2 (by simp [Names.blk, hv, blkOf]; omega)
      · have hlt : i * sz + j < n * sz := by
          have : (i + 1) * sz ≤ n * sz := Nat.mul_le_mul_right _ hi
          rw [Nat.add_mul] at this; omega
        have hlt2 : i * sz + j < cur.size := by
          have : n * sz ≤ cap * sz := Nat.mul_le_mul_right _ hnc
          omega
        rw [Nat.zero_add, cell_of_row w g _ cur e (0, 0) hh]
        simp [hlt2]
      · obtain ⟨u, q1, q2⟩ := hfr i j hi hj x hx
        have hlt : i * sz + j < n * sz := by
          have : (i + 1) * sz ≤ n * sz := Nat.mul_le_mul_right _ hi
          rw [Nat.add_mul] at this; omega
        have : cur[i * sz + j]? = some u := by
          rw [← q1, ← htk, List.getElem?_take, if_pos hlt]; simp
        simp only [Array.getD_eq_getD_getElem?, this, Option.getD_some]
        exact q2.lasts hl
  refine ⟨hl, fun u hu => by rw [hv] at hu; cases hu; exact hd, H.sz, H.df, fun s => (H.env s).lasts' hl (Names.le.refl β), ⟨fun k1 o1 h1 => (H.own.ok k1 o1 (mem_delO h1)).lasts hl (Names.le.refl β) (fun _ _ => rfl), nodup_delO H.own.nodup, fun k1 k2 h1 h2 => H.own.apart k1 k2 ((hdel k1).1 h1).1 ((hdel k2).1 h2).1, fun k1 h1 => H.own.lt k1 ((hdel k1).1 h1).1⟩, fun k1 h1 => H.fr k1 ((hdel k1).1 h1).1, fun k1 h1 => H.kn k1 ((hdel k1).1 h1).1, H.nm, H.kp, H.fx⟩

end Go.Bx
