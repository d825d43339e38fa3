/-
  The engine, part 14: instructions, steps, traces; contracts of calls; a region in order.
-/
import Derived.Test.YthkfedghiklmeaaEng13
namespace Go.Bx
open Go.RowKit

structure I where
  dst : Option Nat
  g : Option (Nat × Bool)
  op : O

/-- Which own blocks a step looks at, and which it sets or strikes. -/
structure Lg where
  rd : List Nat
  wr : List Nat

structure Stp where
  val : V
  upd : List (Nat × Option Own)
  rd : List Nat
  new : List Nat

def Stp.lg (s : Stp) : Lg := { rd := s.rd, wr := s.upd.map (·.1) ++ s.new }

def St.stp (st : St) (dst : Option Nat) (s : Stp) : St := { env := setE st.env dst s.val, own := applyU st.own s.upd, nm := newN st.nm s.upd }

/-- The slots that an instruction looks at. -/
def X.slots : X → List Nat
  | .t s => [s]
  | .k _ => []
def xsSlots : List X → List Nat
  | [] => []
  | x :: l => x.slots ++ xsSlots l
def oxSlots : Option X → List Nat
  | some x => x.slots
  | none => []
def O.slots : O → List Nat
  | .mov x | .box _ x | .load _ _ x | .inv _ x | .conv _ x | .fld _ _ _ x | .fadr _ x | .nilc x | .sidx _ x | .ext _ x | .len x | .isnil _ x | .mkifc _ x | .asl _ _ x => x.slots
  | .pick x y z => x.slots ++ (y.slots ++ z.slots)
  | .alloc _ _ => []
  | .build _ ps => xsSlots (ps.map (·.2.2))
  | .bslice _ _ _ xs => xsSlots xs
  | .store _ x y | .bin _ x y | .beq _ x y | .eqa _ _ _ x y | .shf _ x y | .iadr _ x y | .aadr _ _ x y | .idx _ _ _ x y | .mm _ x y | .mks _ _ _ _ x y | .app _ _ _ x y | .cpy _ x y => x.slots ++ y.slots
  | .mkfn _ xs ys => xsSlots xs ++ xsSlots ys
  | .slc _ x a b d => x.slots ++ (oxSlots a ++ (oxSlots b ++ oxSlots d))
  | .call _ xs => xsSlots xs
  | .callv x xs => x.slots ++ xsSlots xs
def I.slots (i : I) : List Nat := (match i.g with | some (s, _) => [s] | none => []) ++ i.op.slots

/-- An operation of the model and an instruction belong together. -/
structure Cmp (c : Ctx) (ops : Array Oper) (o : Oper) (i : I) : Prop where
  dst : o.dst = i.dst
  lt : ∀ d, i.dst = some d → d < c.nt
  op : cOp c.P o = some i.op
  mkk : makes i.op = true → i.dst.isSome = true
  st : isStore i.op = true → i.dst = none
  gd : match o.guard with
    | none => i.g = none
    | some (j, want) => ∃ s, (ops[j]?).bind (·.dst) = some s ∧ i.g = some (s, want)

/-- A step is valid: in every state that agrees with 'st' in what the step looks at, the operation leads to the state behind the step. -/
def Valid (c : Ctx) (i : I) (st : St) (s : Stp) : Prop :=
  ∀ (st1 : St), (∀ k, k ∈ i.slots → get st1.env k = get st.env k) → (∀ k, k ∈ s.rd → own? st1.own k = own? st.own k) → (∀ k, k ∈ s.new → k ∉ st1.nm) →
    ∀ (ops : Array Oper) (o : Oper), Cmp c ops o i → ∀ (β : Names) (a : Act) (w : World), Holds c β st1 a w → ∀ (Q : Exit → Act → World → Prop) (K : Act → World → Prop),
      (∀ β' a' w', Holds c β' (st1.stp i.dst s) a' w' → K a' w') →
      if Region.wanted o (yielded ops a.tmps) then o.wp c.P a w K Q else K (a.put o.dst undef) w

inductive Trace (c : Ctx) : St → List I → List Stp → St → Prop where
  | nil (st : St) : Trace c st [] [] st
  | cons (st : St) (i : I) (s : Stp) (is : List I) (ss : List Stp) (st' : St) (hv : Valid c i st s) (hn : ∀ k, k ∈ s.new → k ∉ st.nm) (h : Trace c (st.stp i.dst s) is ss st') : Trace c st (i :: is) (s :: ss) st'

/-- Every frame and world of which the one state holds, the other holds of too. -/
def Wk (c : Ctx) (a b : St) : Prop := ∀ β f w, Holds c β a f w → ∃ β', Holds c β' b f w

/-- A region in the text's order: its steps, and states that are weakened between them. -/
inductive Walk (c : Ctx) (K : St → Prop) : List I → St → Prop where
  | nil (st : St) (h : K st) : Walk c K [] st
  | cons (st : St) (i : I) (s : Stp) (is : List I) (hv : Valid c i st s) (hn : ∀ k, k ∈ s.new → k ∉ st.nm) (h : Walk c K is (st.stp i.dst s)) : Walk c K (i :: is) st
  | wk (st st1 : St) (is : List I) (hw : Wk c st st1) (h : Walk c K is st1) : Walk c K is st

/-- What a region comes to: there is a trace, and behind it K holds. -/
def TR (c : Ctx) (b : Bool) (is : List I) (st : St) (acc : List Lg) (K : List Lg → St → Prop) : Prop :=
  match b with
  | true => ∃ ss st', Trace c st is ss st' ∧ K (acc ++ ss.map Stp.lg) st'
  | false => Walk c (K acc) is st

theorem TR.nil {c : Ctx} {b : Bool} {st : St} {acc : List Lg} {K : List Lg → St → Prop} (h : K acc st) : TR c b [] st acc K := by
  cases b with
  | true => exact ⟨[], st, .nil st, by simpa using h⟩
  | false => exact Walk.nil st h

/-- The log, where it is kept. -/
def lgs (b : Bool) (acc : List Lg) (x : Lg) : List Lg := if b then acc ++ [x] else acc

theorem TR.cons {c : Ctx} {b : Bool} {i : I} {is : List I} {st : St} {acc : List Lg} {K : List Lg → St → Prop} (s : Stp) (hv : Valid c i st s) (hn : ∀ k, k ∈ s.new → k ∉ st.nm) (h : TR c b is (st.stp i.dst s) (lgs b acc s.lg) K) : TR c b (i :: is) st acc K := by
  cases b with
  | true =>
    obtain ⟨ss, st', h1, h2⟩ := h
    exact ⟨s :: ss, st', .cons _ _ _ _ _ _ hv hn h1, by simpa [lgs] using h2⟩
  | false => exact Walk.cons _ _ _ _ hv hn h

/-- Where the order is the text's, a state may be weakened between two steps. -/
theorem TR.wk {c : Ctx} {is : List I} {st : St} (st1 : St) {acc : List Lg} {K : List Lg → St → Prop} (hw : Wk c st st1) (h : TR c false is st1 acc K) : TR c false is st acc K := Walk.wk _ _ _ hw h

theorem Walk.mono {c : Ctx} {K K' : St → Prop} (hk : ∀ st, K st → K' st) {is : List I} {st : St} (h : Walk c K is st) : Walk c K' is st := by
  induction h with
  | nil st h => exact .nil st (hk st h)
  | cons st i s is hv hn _ ih => exact .cons st i s is hv hn ih
  | wk st st1 is hw _ ih => exact .wk st st1 is hw ih
theorem TR.mono {c : Ctx} {b : Bool} {is : List I} {st : St} {acc : List Lg} {K K' : List Lg → St → Prop} (hk : ∀ acc st, K acc st → K' acc st) (h : TR c b is st acc K) : TR c b is st acc K' := by
  cases b with
  | true =>
    obtain ⟨ss, st', h1, h2⟩ := h
    exact ⟨ss, st', h1, hk _ _ h2⟩
  | false => exact Walk.mono (fun st h => hk _ st h) h

/-- A region in the text's order. -/
theorem wp_walk {c : Ctx} {ops : Array Oper} {Q : Exit → Act → World → Prop} {K : St → Prop} (hQ : ∀ st', K st' → ∀ β a w, Holds c β st' a w → Q .normal a w) :
    ∀ {is : List I} {st : St}, Walk c K is st → ∀ {l : List Oper}, l.length = is.length → (∀ (j : Nat) (o : Oper) (i : I), l[j]? = some o → is[j]? = some i → Cmp c ops o i) →
      ∀ (β : Names) (a : Act) (w : World), Holds c β st a w → wpList c.P ops Q l a w := by
  intro is st h
  induction h with
  | nil st hk =>
    intro l hl _ β a w H
    have : l = [] := List.eq_nil_of_length_eq_zero (by simpa using hl)
    subst this
    exact hQ st hk β a w H
  | cons st i s is hv hn _ ih =>
    intro l hl hc β a w H
    cases l with
    | nil => simp at hl
    | cons o l =>
      have h1 := hv st (fun _ _ => rfl) (fun _ _ => rfl) hn ops o (hc 0 o i rfl rfl) β a w H Q
      refine wpList_step fun K hK => ?_
      exact h1 K fun β' a' w' H' => hK a' w' (ih (by simpa using hl) (fun j o i ho hi => hc (j + 1) o i (by simpa using ho) (by simpa using hi)) β' a' w' H')
  | wk st st1 is hw _ ih =>
    intro l hl hc β a w H
    obtain ⟨β1, H1⟩ := hw β a w H
    exact ih hl hc β1 a w H1

theorem Oper.wp_ok {P : Program} {o : Oper} {a : Act} {w : World} {K : Act → World → Prop} {Q : Exit → Act → World → Prop} {v : Value} {w' : World}
    (h : (execOp a.eval o).run P w = .ok (.value v) w' ∨ ((execOp a.eval o).run P w = .ok .skip w' ∧ v = undef)) (hk : K (a.put o.dst v) w') : o.wp P a w K Q := by
  unfold Oper.wp
  rcases h with h | ⟨h, rfl⟩
  · rw [h]; exact hk
  · rw [h]; exact hk

/-! What an instruction yields hangs on what it looks at alone. -/
section congr
variable {st st1 : St}

theorem evX_congr {x : X} (h : ∀ k, k ∈ x.slots → get st1.env k = get st.env k) : evX st1 x = evX st x := by
  cases x with
  | t s => exact h s (by simp [X.slots])
  | k v => rfl
theorem evV_congr {x : X} (h : ∀ k, k ∈ x.slots → get st1.env k = get st.env k) : evV st1 x = evV st x := by unfold evV; rw [evX_congr h]
theorem evS_congr {p : Bool} {x : X} (h : ∀ k, k ∈ x.slots → get st1.env k = get st.env k) : evS p st1 x = evS p st x := by unfold evS; rw [evX_congr h]
theorem evVs_congr : ∀ {xs : List X}, (∀ k, k ∈ xsSlots xs → get st1.env k = get st.env k) → evVs st1 xs = evVs st xs
  | [], _ => rfl
  | x :: xs, h => by
    simp only [evVs]
    rw [evV_congr (fun k hk => h k (by simp [xsSlots, hk])), evVs_congr (fun k hk => h k (by simp [xsSlots, hk]))]
theorem evSs_congr {p : Bool} : ∀ {xs : List X}, (∀ k, k ∈ xsSlots xs → get st1.env k = get st.env k) → evSs p st1 xs = evSs p st xs
  | [], _ => rfl
  | x :: xs, h => by
    simp only [evSs]
    rw [evS_congr (fun k hk => h k (by simp [xsSlots, hk])), evSs_congr (fun k hk => h k (by simp [xsSlots, hk]))]
theorem evParts_congr : ∀ {ps : List (Nat × Nat × X)}, (∀ k, k ∈ xsSlots (ps.map (·.2.2)) → get st1.env k = get st.env k) → evParts st1 ps = evParts st ps
  | [], _ => rfl
  | (a, b, x) :: ps, h => by
    simp only [evParts]
    rw [evV_congr (fun k hk => h k (by simp [xsSlots, hk])), evParts_congr (fun k hk => h k (by simp only [List.map_cons, xsSlots, List.mem_append]; exact .inr hk))]
theorem evPartsS_congr {p : Bool} : ∀ {ps : List (Nat × Nat × X)}, (∀ k, k ∈ xsSlots (ps.map (·.2.2)) → get st1.env k = get st.env k) → evPartsS p st1 ps = evPartsS p st ps
  | [], _ => rfl
  | (a, b, x) :: ps, h => by
    simp only [evPartsS]
    rw [evS_congr (fun k hk => h k (by simp [xsSlots, hk])), evPartsS_congr (fun k hk => h k (by simp only [List.map_cons, xsSlots, List.mem_append]; exact .inr hk))]

end congr

/-- The same of a whole operation: what it asks of names apart ('d' is to be new), it is the same. -/
theorem opR_congr {st st1 : St} {p : Bool} {d : Nat} {q : O} (hq : isCall q = false) (hs : (opR st p d q).side) (h : ∀ k, k ∈ q.slots → get st1.env k = get st.env k) (hr : ∀ k, k ∈ (opR st p d q).rd → own? st1.own k = own? st.own k)
    (hn : makes q = true → d ∉ st1.nm) : (opR st1 p d q).side ∧ (opR st1 p d q).val = (opR st p d q).val ∧ (opR st1 p d q).upd = (opR st p d q).upd ∧ (opR st1 p d q).rd = (opR st p d q).rd := by
  cases q <;> simp only [isCall] at hq <;> (try cases hq) <;> simp only [O.slots, List.mem_append] at h
  case mov x =>
    simp only [opR] at *
    rw [evV_congr h, evS_congr h]; exact ⟨hs, by simp⟩
  case pick x y z =>
    have h1 : ∀ k, k ∈ x.slots → get st1.env k = get st.env k := fun k hk => h k (.inl hk)
    have h2 : ∀ k, k ∈ y.slots → get st1.env k = get st.env k := fun k hk => h k (.inr (.inl hk))
    have h3 : ∀ k, k ∈ z.slots → get st1.env k = get st.env k := fun k hk => h k (.inr (.inr hk))
    simp only [opR] at hs ⊢
    simp only [evV_congr h1, evV_congr h2, evV_congr h3, evS_congr h1, evS_congr h2, evS_congr h3]
    exact ⟨hs, by simp⟩
  case alloc e cs => simp only [opR] at *; exact ⟨hn rfl, by simp⟩
  case box e x =>
    simp only [opR] at hs ⊢
    simp only [evV_congr h, evS_congr h]
    split at hs
    · exact ⟨⟨hs.1, hn rfl⟩, by simp⟩
    · exact hs.elim
  case build z ps =>
    simp only [opR] at hs ⊢
    simp only [evParts_congr h, evPartsS_congr h]
    exact ⟨hs, by simp⟩
  case bslice e sz len xs =>
    simp only [opR] at hs ⊢
    simp only [evVs_congr h, evSs_congr h]
    split at hs
    · split at hs
      · exact ⟨⟨hs.1, hn rfl⟩, by simp⟩
      · exact ⟨⟨hs.1, hs.2.1, hn rfl⟩, by simp⟩
    · exact hs.elim
  case load sz agg x =>
    simp only [opR] at hs hr ⊢
    simp only [evV_congr h, evS_congr h]
    split at hs
    · rename_i cs h1
      simp only [h1] at hr ⊢
      exact ⟨hs, by simp⟩
    · rename_i k off h1
      simp only [h1] at hr ⊢
      split at hs
      · rename_i cs h2
        simp only [h2] at hr
        rw [hr k (by simp), h2]
        exact ⟨hs, by simp⟩
      · exact hs.elim
    · rename_i k sz' i off h1
      simp only [h1] at hr ⊢
      split at hs
      · rename_i e0 sz2 n f h2
        simp only [h2] at hr
        rw [hr k (by simp), h2]
        exact ⟨hs, by simp⟩
      · rename_i sz2 n cs h2
        simp only [h2] at hr
        rw [hr k (by simp), h2]
        exact ⟨hs, by simp⟩
      · exact hs.elim
    · exact hs.elim
  case store sz x y =>
    have h1 : ∀ k, k ∈ x.slots → get st1.env k = get st.env k := fun k hk => h k (.inl hk)
    have h2 : ∀ k, k ∈ y.slots → get st1.env k = get st.env k := fun k hk => h k (.inr hk)
    simp only [opR] at hs hr ⊢
    simp only [evV_congr h1, evV_congr h2, evS_congr h1, evS_congr h2]
    split at hs
    · rename_i k off ys g1 g2
      simp only [g1, g2] at hr ⊢
      split at hs
      · rename_i cs g3
        simp only [g3] at hr
        rw [hr k (by simp), g3]
        exact ⟨hs, by simp⟩
      · exact hs.elim
    · rename_i k sz' i off ys g1 g2
      simp only [g1, g2] at hr ⊢
      split at hs
      · rename_i e0 sz2 n f ds g3 g4
        simp only [g3, g4] at hr
        rw [hr k (by simp), g3]
        simp only [g4]
        exact ⟨hs, by simp⟩
      · rename_i sz2 n cs g3
        simp only [g3] at hr
        rw [hr k (by simp), g3]
        exact ⟨hs, by simp⟩
      · exact hs.elim
    · exact hs.elim
  case iadr sz x i =>
    have h1 : ∀ k, k ∈ x.slots → get st1.env k = get st.env k := fun k hk => h k (.inl hk)
    have h2 : ∀ k, k ∈ i.slots → get st1.env k = get st.env k := fun k hk => h k (.inr hk)
    simp only [opR] at hs hr ⊢
    simp only [evV_congr h1, evV_congr h2, evS_congr h1, evS_congr h2]
    split at hs
    · rename_i g1 g2
      simp only [g1, g2] at hr ⊢
      exact ⟨hs, by simp⟩
    · rename_i k kk m g1 g2
      simp only [g1, g2] at hr ⊢
      split at hs
      · rename_i g3
        simp only [g3] at hr
        rw [hr k (by simp), g3]
        exact ⟨hs, by simp⟩
      · rename_i g3
        simp only [g3] at hr
        rw [hr k (by simp), g3]
        exact ⟨hs, by simp⟩
      · exact hs.elim
    · rename_i g1 g2
      simp only [g1, g2] at hr ⊢
      exact ⟨hs, by simp⟩
    · exact hs.elim
  case len x =>
    simp only [opR] at hs hr ⊢
    simp only [evV_congr h, evS_congr h]
    split at hs
    · rename_i g1
      simp only [g1] at hr ⊢
      exact ⟨hs, by simp⟩
    · rename_i k g1
      simp only [g1] at hr ⊢
      split at hs
      · rename_i g3
        simp only [g3] at hr
        rw [hr k (by simp), g3]
        exact ⟨hs, by simp⟩
      · rename_i g3
        simp only [g3] at hr
        rw [hr k (by simp), g3]
        exact ⟨hs, by simp⟩
      · exact hs.elim
    · rename_i g1
      simp only [g1] at hr ⊢
      exact ⟨hs, by simp⟩
    · exact hs.elim
  case app e sz bytes x y =>
    have h1 : ∀ k, k ∈ x.slots → get st1.env k = get st.env k := fun k hk => h k (.inl hk)
    have h2 : ∀ k, k ∈ y.slots → get st1.env k = get st.env k := fun k hk => h k (.inr hk)
    have hn := hn rfl
    simp only [opR] at hs hr ⊢
    simp only [evV_congr h1, evV_congr h2, evS_congr h1, evS_congr h2]
    split at hs
    · rename_i k fl sz2 m g g1 g2
      simp only [g1, g2] at hr ⊢
      split at hs
      · rename_i g3
        simp only [g3] at hr
        rw [hr k (by simp), g3]
        obtain ⟨a1, a2, a3, a4, a5, a6, a7, _⟩ := hs
        exact ⟨⟨a1, a2, a3, a4, a5, a6, a7, hn⟩, by simp⟩
      · exact hs.elim
    · rename_i g1 g2
      simp only [g1, g2] at hr ⊢
      obtain ⟨a1, a2, a3, a4, a5, a6, a7, a8, _⟩ := hs
      exact ⟨⟨a1, a2, a3, a4, a5, a6, a7, a8, hn⟩, by simp⟩
    · rename_i k k2 g1 g2
      simp only [g1, g2] at hr ⊢
      split at hs
      · rename_i g3 g4
        simp only [g3, g4] at hr
        split at hs
        · rename_i ds g5
          simp only [g5] at hr
          rw [hr k (by simp), hr k2 (by simp), g3, g4]
          simp only [g5]
          obtain ⟨a1, a2, a3, a4, a5, a6, a7, a8, _⟩ := hs
          exact ⟨⟨a1, a2, a3, a4, a5, a6, a7, a8, hn⟩, by simp⟩
        · exact hs.elim
      · exact hs.elim
    · rename_i k2 g1 g2
      simp only [g1, g2] at hr ⊢
      split at hs
      · rename_i g4
        simp only [g4] at hr
        split at hs
        · rename_i ds g5
          simp only [g5] at hr
          rw [hr k2 (by simp), g4]
          simp only [g5]
          obtain ⟨a1, a2, a3, a4, a5, a6, a7, a8, _⟩ := hs
          exact ⟨⟨a1, a2, a3, a4, a5, a6, a7, a8, hn⟩, by simp⟩
        · exact hs.elim
      · exact hs.elim
    · exact hs.elim
  case mkfn f xs ys =>
    have h1 : ∀ k, k ∈ xsSlots xs → get st1.env k = get st.env k := fun k hk => h k (.inl hk)
    have h2 : ∀ k, k ∈ xsSlots ys → get st1.env k = get st.env k := fun k hk => h k (.inr hk)
    simp only [opR] at hs ⊢
    simp only [evVs_congr h1, evVs_congr h2, evSs_congr h1, evSs_congr h2]
    exact ⟨hs, by simp⟩
  case mks e sz bytes z x y =>
    have h1 : ∀ k, k ∈ x.slots → get st1.env k = get st.env k := fun k hk => h k (.inl hk)
    have h2 : ∀ k, k ∈ y.slots → get st1.env k = get st.env k := fun k hk => h k (.inr hk)
    have hn := hn rfl
    simp only [opR] at hs ⊢
    simp only [evV_congr h1, evV_congr h2, evS_congr h1, evS_congr h2]
    split at hs
    · obtain ⟨a1, a2, a3, a4, a5, a6, _⟩ := hs
      exact ⟨⟨a1, a2, a3, a4, a5, a6, hn⟩, by simp⟩
    · exact hs.elim
  case slc sz x lo hi mx =>
    have h1 : ∀ k, k ∈ x.slots → get st1.env k = get st.env k := fun k hk => h k (.inl hk)
    have ho : ∀ (y : Option X), (∀ k, k ∈ oxSlots y → get st1.env k = get st.env k) → y.map (evV st1) = y.map (evV st) ∧ ∀ z, y = some z → evS p st1 z = evS p st z := fun y hy => by
      cases y with
      | none => exact ⟨rfl, fun z hz => by cases hz⟩
      | some z =>
        have hz : ∀ k, k ∈ z.slots → get st1.env k = get st.env k := fun k hk => hy k (by simpa [oxSlots] using hk)
        exact ⟨by simp [evV_congr hz], fun z' e => by cases e; exact evS_congr hz⟩
    obtain ⟨l1, l2⟩ := ho lo (fun k hk => h k (.inr (.inl hk)))
    obtain ⟨m1, m2⟩ := ho hi (fun k hk => h k (.inr (.inr (.inl hk))))
    obtain ⟨n1, n2⟩ := ho mx (fun k hk => h k (.inr (.inr (.inr hk))))
    have k1 : (∀ h, lo = some h → evS p st1 h) = (∀ h, lo = some h → evS p st h) := propext ⟨fun q z hz => l2 z hz ▸ q z hz, fun q z hz => (l2 z hz).symm ▸ q z hz⟩
    have k2 : (∀ h, hi = some h → evS p st1 h) = (∀ h, hi = some h → evS p st h) := propext ⟨fun q z hz => m2 z hz ▸ q z hz, fun q z hz => (m2 z hz).symm ▸ q z hz⟩
    have k3 : (∀ h, mx = some h → evS p st1 h) = (∀ h, mx = some h → evS p st h) := propext ⟨fun q z hz => n2 z hz ▸ q z hz, fun q z hz => (n2 z hz).symm ▸ q z hz⟩
    simp only [opR] at hs hr ⊢
    simp only [evV_congr h1, evS_congr h1, l1, m1, n1, k1, k2, k3]
    split at hs
    · rename_i g1 g2 g3 g4
      simp only [g1, g2, g3, g4] at hr ⊢
      exact ⟨hs, by simp⟩
    · rename_i g1 g2 g3 g4
      simp only [g1, g2, g3, g4] at hr ⊢
      exact ⟨hs, by simp⟩
    · rename_i g1 g2 g3 g4
      simp only [g1, g2, g3, g4] at hr ⊢
      exact ⟨hs, by simp⟩
    · rename_i k ka aa g1 g2 g3 g4
      simp only [g1, g2, g3, g4] at hr ⊢
      split at hs
      · rename_i g5
        simp only [g5] at hr
        rw [hr k (by simp), g5]
        exact ⟨hs, by simp⟩
      · exact hs.elim
    · rename_i k ka aa g1 g2 g3 g4
      simp only [g1, g2, g3, g4] at hr ⊢
      split at hs
      · rename_i g5
        simp only [g5] at hr
        rw [hr k (by simp), g5]
        exact ⟨hs, by simp⟩
      · exact hs.elim
    · exact hs.elim
  case cpy sz x y =>
    have h1 : ∀ k, k ∈ x.slots → get st1.env k = get st.env k := fun k hk => h k (.inl hk)
    have h2 : ∀ k, k ∈ y.slots → get st1.env k = get st.env k := fun k hk => h k (.inr hk)
    simp only [opR] at hs hr ⊢
    simp only [evV_congr h1, evV_congr h2, evS_congr h1, evS_congr h2]
    split at hs
    · rename_i k fl sz2 m g g1 g2
      simp only [g1, g2] at hr ⊢
      split at hs
      · rename_i g3
        simp only [g3] at hr
        rw [hr k (by simp), g3]
        exact ⟨hs, by simp⟩
      · exact hs.elim
    · rename_i k sz1 lo n k2 sz2 lo2 m g1 g2
      simp only [g1, g2] at hr ⊢
      split at hs
      · rename_i g3
        simp only [g3] at hr
        rw [hr k (by simp), g3]
        exact ⟨hs, by simp⟩
      · exact hs.elim
    · exact hs.elim
  all_goals first
    | (simp only [opR] at hs ⊢
       simp only [evV_congr h, evS_congr h]
       exact ⟨hs, by simp⟩)
    | (rename_i x y
       have h1 : ∀ k, k ∈ x.slots → get st1.env k = get st.env k := fun k hk => h k (.inl hk)
       have h2 : ∀ k, k ∈ y.slots → get st1.env k = get st.env k := fun k hk => h k (.inr hk)
       simp only [opR] at hs ⊢
       simp only [evV_congr h1, evV_congr h2, evS_congr h1, evS_congr h2]
       exact ⟨hs, by simp⟩)

end Go.Bx
