/-
  The engine, part 24: a block of the call's own that is given up: from now on it is data. Scopes whose label is only left.
-/
import Derived.Test.YthkfedghiklmeaaEng23
namespace Go.Bx
open Go.RowKit

mutual
/-- A block of the call's own is data from now on. -/
def pubFV (k : Nat) (ds : List D) : V → V
  | .own k' off => if k' = k then .mem (dropD ds off) else .own k' off
  | .ag cs => .ag (pubFL k ds cs)
  | .tup cs => .tup (pubFL k ds cs)
  | .un => .un
  | .d y => .d y
  | .mem cs => .mem cs
  | .osl k' => .osl k'
  | .osub k' sz lo n => .osub k' sz lo n
  | .optr k' sz i off => .optr k' sz i off
  | .fn f a b => .fn f a b
  | .ifc t v => .ifc t v
  | .gd c v => .gd c v
def pubFL (k : Nat) (ds : List D) : List V → List V
  | [] => []
  | v :: l => pubFV k ds v :: pubFL k ds l
end
def pubFE (k : Nat) (ds : List D) : List (Nat × V) → List (Nat × V)
  | [] => []
  | (s, v) :: l => (s, pubFV k ds v) :: pubFE k ds l
def pubFO (k : Nat) (ds : List D) : List (Nat × Own) → List (Nat × Own)
  | [] => []
  | (k', .fix cs) :: l => (k', .fix (pubFL k ds cs)) :: pubFO k ds l
  | (k', .lit sz n cs) :: l => (k', .lit sz n (pubFL k ds cs)) :: pubFO k ds l
  | (k', .row e sz n f) :: l => (k', .row e sz n f) :: pubFO k ds l

theorem pubFL_eq (k : Nat) (x : List D) (l : List V) : pubFL k x l = l.map (pubFV k x) := by
  induction l with
  | nil => rfl
  | cons v l ih => simp [pubFL, ih]
def pubFO1 (k : Nat) (x : List D) : Own → Own
  | .fix cs => .fix (pubFL k x cs)
  | .lit sz n cs => .lit sz n (pubFL k x cs)
  | .row e sz n f => .row e sz n f
theorem pubFO_eq (k : Nat) (x : List D) (l : List (Nat × Own)) : pubFO k x l = l.map fun p => (p.1, pubFO1 k x p.2) := by
  induction l with
  | nil => rfl
  | cons p l ih =>
    obtain ⟨k', o⟩ := p
    cases o <;> simp [pubFO, pubFO1, ih]

theorem RelV.pubF {β : Names} {E E' : Nat → Prop} {w : World} {k b : Nat} {ds : List D} (hl : Lasts E E' w w) (hb : β k = some (.pointer (some ⟨b, 0, none⟩)))
    (hc : ∀ j x, ds[j]? = some x → ¬ E' b ∧ ∃ v, w.cell? ⟨b, j, none⟩ = some v ∧ RelD E' w v x) {v : Value} {y : V} (h : RelV β E w v y) : RelV β E' w v (pubFV k ds y) := by
  induction h with
  | own k' off b' h =>
    simp only [pubFV]
    split
    · rename_i e
      subst e
      rw [hb] at h
      injection h with h; injection h with h; injection h with h; injection h with h
      subst h
      rw [dropD_eq]
      refine .mem _ b off (fun j => (w.cell? ⟨b, off + j, none⟩).getD undef) (fun j hj => ?_) (fun j x hx => ?_)
      · rw [List.length_drop] at hj
        obtain ⟨h1, v, h2, -⟩ := hc (off + j) _ (List.getElem?_eq_getElem (by omega))
        exact ⟨h1, by rw [h2]; rfl⟩
      · rw [List.getElem?_drop] at hx
        obtain ⟨-, v, h2, h3⟩ := hc (off + j) _ hx
        rw [h2]; exact h3
    · exact .own k' off b' h
  | osl k' v h h1 => exact .osl _ _ h h1
  | ag arr cs h1 r1 ih =>
    simp only [pubFV, pubFL_eq]
    refine .ag _ _ (by simpa using h1) fun j v y hv hy => ?_
    rw [List.getElem?_map] at hy
    obtain ⟨y0, hy0, rfl⟩ := Option.map_eq_some_iff.1 hy
    exact ih j v y0 hv hy0
  | tup arr cs h1 r1 ih =>
    simp only [pubFV, pubFL_eq]
    refine .tup _ _ (by simpa using h1) fun j v y hv hy => ?_
    rw [List.getElem?_map] at hy
    obtain ⟨y0, hy0, rfl⟩ := Option.map_eq_some_iff.1 hy
    exact ih j v y0 hv hy0
  | un v => exact .un v
  | d v y h => exact .d v y (h.lasts hl)
  | mem cs b off g hcell hrel => exact (RelV.mem (β := β) cs b off g hcell hrel).lasts' hl (Names.le.refl β)
  | osub k' sz lo n b m c a h h1 h2 => exact .osub k' sz lo n b m c a h h1 h2
  | osub0 k' sz A h => exact .osub0 k' sz A h
  | optr k' sz i off b m c h => exact .optr k' sz i off b m c h
  | fn f fi ca first cap h1 h2 r1 r2 _ _ => exact (RelV.fn (β := β) f fi ca first cap h1 h2 r1 r2).lasts' hl (Names.le.refl β)
  | ifc t v y h _ => exact (RelV.ifc (β := β) t v y h).lasts' hl (Names.le.refl β)
  | gd c v y h h' _ => exact (RelV.gd (β := β) c v y h h').lasts' hl (Names.le.refl β)

theorem Wk.pubF {c : Ctx} {a : St} (k : Nat) {cs : List V} {ds : List D} (ho : own? a.own k = some (.fix cs)) (hd : toDs cs = some ds) : Wk c a ⟨pubFE k ds a.env, pubFO k ds (delO a.own k), a.nm⟩ := by
  intro β fr w H
  have hkk := mem_keys (own?_mem ho)
  have hdel := fun k1 => keys_delO (l := a.own) (k := k) H.own.nodup k1
  obtain ⟨b, arr, e, hv, hh, hsz, hr⟩ := own_ok H ho
  have hcs := toDs_some hd
  have hkp : keysO (pubFO k ds (delO a.own k)) = keysO (delO a.own k) := by
    rw [pubFO_eq]; simp [keysO]
  have hEe : Eo c.E0 β (pubFO k ds (delO a.own k)) = Eo c.E0 β (delO a.own k) := by
    unfold Eo; rw [hkp]
  have hE : ∀ x, Eo c.E0 β (delO a.own k) x → Eo c.E0 β a.own x := by
    rintro x (h | ⟨k1, h1, h2⟩)
    · exact .inl h
    · exact .inr ⟨k1, ((hdel k1).1 h1).1, h2⟩
  have hl : Lasts (Eo c.E0 β a.own) (Eo c.E0 β (delO a.own k)) w w := fun x _ hx => ⟨fun h => hx (hE x h), rfl⟩
  have hbk : β.blk k = some b := by simp [Names.blk, hv, blkOf]
  have hnb : ¬ Eo c.E0 β (delO a.own k) b := by
    rintro (h | ⟨k1, h1, h2⟩)
    · exact (H.own.lt k hkk b hbk).2 h
    · obtain ⟨h3, h4⟩ := (hdel k1).1 h1
      exact H.own.apart k1 k h3 hkk h4 b h2 hbk
  have hc : ∀ j x, ds[j]? = some x → ¬ Eo c.E0 β (delO a.own k) b ∧ ∃ v, w.cell? ⟨b, j, none⟩ = some v ∧ RelD (Eo c.E0 β (delO a.own k)) w v x := fun j x hx => by
    have hj : j < arr.size := by
      have := (List.getElem?_eq_some_iff.1 hx).1
      rw [hsz, hcs]; simpa using this
    refine ⟨hnb, arr[j], ?_, ?_⟩
    · rw [cell_of_row w b j arr e (0, 0) hh]; simp [hj]
    · exact (rel_d (hr j _ (.d x) (Array.getElem?_eq_getElem hj) (by rw [hcs]; simp [hx]))).lasts hl
  have hpub : ∀ {u : Value} {y : V}, RelV β (Eo c.E0 β a.own) w u y → RelV β (Eo c.E0 β (pubFO k ds (delO a.own k))) w u (pubFV k ds y) := fun h => by
    rw [hEe]
    exact h.pubF hl hv hc
  refine ⟨β, H.sz, H.df, fun s => ?_, ⟨fun k1 o1 h1 => ?_, by rw [hkp]; exact nodup_delO H.own.nodup, fun k1 k2 h1 h2 => H.own.apart k1 k2 ((hdel k1).1 (hkp ▸ h1)).1 ((hdel k2).1 (hkp ▸ h2)).1, fun k1 h1 => H.own.lt k1 ((hdel k1).1 (hkp ▸ h1)).1⟩, fun k1 h1 => H.fr k1 ((hdel k1).1 (hkp ▸ h1)).1, fun k1 h1 => H.kn k1 ((hdel k1).1 (hkp ▸ h1)).1, H.nm, H.kp, H.fx⟩
  · have : ∀ (l : List (Nat × V)), get (pubFE k ds l) s = pubFV k ds (get l s) := by
      intro l
      induction l with
      | nil => simp [pubFE, get, pubFV]
      | cons p l ih =>
        obtain ⟨s', y⟩ := p
        simp only [pubFE, get]
        split
        · rfl
        · exact ih
    simp only [this]
    exact hpub (H.env s)
  · rw [pubFO_eq, List.mem_map] at h1
    obtain ⟨⟨k2, o2⟩, h2, h3⟩ := h1
    simp only [Prod.mk.injEq] at h3
    obtain ⟨rfl, rfl⟩ := h3
    have hok := H.own.ok k2 o2 (mem_delO h2)
    cases o2 with
    | fix cs2 =>
      obtain ⟨b2, arr2, e', g1, g2, g3, g4⟩ := hok
      refine ⟨b2, arr2, e', g1, g2, by simpa [pubFL_eq] using g3, fun j v x hv' hx => ?_⟩
      rw [pubFL_eq, List.getElem?_map] at hx
      obtain ⟨y, hy, rfl⟩ := Option.map_eq_some_iff.1 hx
      exact hpub (g4 j v y hv' hy)
    | row e' sz' n' ff => rw [hEe]; exact hok.lasts hl (Names.le.refl β) (fun _ _ => rfl)
    | lit sz' n' cs2 =>
      obtain ⟨b2, arr2, e', cap, g1, g0, gc, g2, g3, g5, g4⟩ := hok
      refine ⟨b2, arr2, e', cap, g1, g0, gc, g2, by simpa [pubFL_eq] using g3, by simpa [pubFL_eq] using g5, fun j v x hv' hx => ?_⟩
      rw [pubFL_eq, List.getElem?_map] at hx
      obtain ⟨y, hy, rfl⟩ := Option.map_eq_some_iff.1 hx
      exact hpub (g4 j v y hv' hy)

/-- A slice of a whole array in a block of the call's own, which is given up for it. -/
theorem TR.aslO {c : Ctx} {st : St} {is : List I} {acc : List Lg} {K : List Lg → St → Prop} {d : Option Nat} {sz n k off : Nat} {x : X} {cs : List V} {ds : List D} (hx : evV st x = .own k off) (ho : own? st.own k = some (.fix cs)) (hd : toDs cs = some ds)
    (hx2 : evV ⟨pubFE k ds st.env, pubFO k ds (delO st.own k), st.nm⟩ x = .mem (dropD ds off)) (hs : evS true ⟨pubFE k ds st.env, pubFO k ds (delO st.own k), st.nm⟩ x) (hl : n * sz ≤ (dropD ds off).length)
    (h : vcR c false is (St.stp ⟨pubFE k ds st.env, pubFO k ds (delO st.own k), st.nm⟩ d { val := .d (.sl true sz n (litRow sz (dropD ds off))), upd := [], rd := [], new := [] }) acc K) : TR c false (⟨d, none, .asl sz n x⟩ :: is) st acc K :=
  TR.wk _ (Wk.pubF k ho hd) (TR.asl hx2 hs hl h)

/-- A scope into whose label nothing jumps. -/
theorem vcC.scope0 {c : Ctx} {st : St} {K : Kont} {l : Nat} {a b : C} (h : vcC c a st (jmpK l (fun _ => False) K)) : vcC c (.scope l a b) st K :=
  ⟨Unit, fun _ => st, fun _ => False, fun _ => 0, vcC_mono (fun e st h => by
    cases e with
    | nrm => exact h
    | exit i =>
      rw [jmpK_exit] at h ⊢
      split at h
      · exact h.elim
      · rename_i hi; rw [if_neg hi]; exact h
    | ret => exact h) h, fun _ hp => hp.elim⟩
/-- A scope whose label is jumped back to. -/
theorem vcC.scope {c : Ctx} {st : St} {K : Kont} {l : Nat} {a b : C} {X : Type} (S : X → St) (p : X → Prop) (m : X → Nat) (h : vcC c a st (jmpK l (fun st => ∃ x, p x ∧ Wk c st (S x)) K))
    (hb : ∀ x, p x → vcC c b (S x) (jmpK l (fun st => ∃ x', p x' ∧ Wk c st (S x') ∧ m x' < m x) K)) : vcC c (.scope l a b) st K := ⟨X, S, p, m, h, hb⟩
end Go.Bx
