/-
  The engine, part 1: symbolic values, what they say of a value in a world, and that this lasts as the world grows.
-/
import Derived.WalkKit
import Derived.Deep.Draws
namespace Go.Bx

inductive D where
  | int (k : IntKind) (n : Int)
  | bool (b : Bool)
  | raw (v : Value)
  | sl (full : Bool) (sz n : Nat) (f : Nat → List D)
  | qb (p q : Prop)

/-- The value reads as this datum, in blocks that E does not hold. -/
inductive RelD (E : Nat → Prop) (w : World) : Value → D → Prop where
  | int (k : IntKind) (n : Int) : RelD E w (.int k n) (.int k n)
  | bool (b : Bool) : RelD E w (.bool b) (.bool b)
  | raw (v : Value) (h : v.oneCell' = true) : RelD E w v (.raw v)
  | qb (b : Bool) (p q : Prop) (h1 : b = true → p) (h2 : b = false → q) : RelD E w (.bool b) (.qb p q)
  | nil (A : Option Addr) (full : Bool) (sz : Nat) (f : Nat → List D) : RelD E w (.slice A 0 0) (.sl full sz 0 f)
  | sl (full : Bool) (sz n : Nat) (f : Nat → List D) (b off c : Nat) (g : Nat → Nat → Value) (hc : n ≤ c) (hf : full = true → c = n)
      (hl : ∀ i, i < n → (f i).length = sz)
      (hcell : ∀ i j, i < n → j < sz → ¬ E b ∧ w.cell? ⟨b, off + (i * sz + j), none⟩ = some (g i j))
      (hrel : ∀ i j, i < n → j < sz → ∀ x, (f i)[j]? = some x → RelD E w (g i j) x) :
      RelD E w (.slice (some ⟨b, off, none⟩) n c) (.sl full sz n f)

theorem cell_lt {w : World} {a : Addr} {v : Value} (h : w.cell? a = some v) : a.block < w.heap.size := World.block_lt_of_cell? w a h

/-- What lasts: blocks that E does not hold stay as they are, and E' does not hold them. -/
def Lasts (E E' : Nat → Prop) (w w' : World) : Prop := ∀ b, b < w.heap.size → ¬ E b → ¬ E' b ∧ w'.heap[b]? = w.heap[b]?

theorem Lasts.refl (E : Nat → Prop) (w : World) : Lasts E E w w := fun _ _ h => ⟨h, rfl⟩

theorem Lasts.cell {E E' : Nat → Prop} {w w' : World} (h : Lasts E E' w w') {a : Addr} {v : Value} (hE : ¬ E a.block) (hc : w.cell? a = some v) :
    ¬ E' a.block ∧ w'.cell? a = some v := by
  obtain ⟨h1, h2⟩ := h a.block (cell_lt hc) hE
  exact ⟨h1, (World.cell?_of_block h2).trans hc⟩

theorem RelD.lasts {E E' : Nat → Prop} {w w' : World} (hg : Lasts E E' w w') {v : Value} {d : D} (h : RelD E w v d) : RelD E' w' v d := by
  induction h with
  | int k n => exact .int k n
  | bool b => exact .bool b
  | raw v h => exact .raw v h
  | qb b p q h1 h2 => exact .qb b p q h1 h2
  | nil A full sz f => exact .nil A full sz f
  | sl full sz n f b off c g hc hf hl hcell _ ih =>
    exact .sl full sz n f b off c g hc hf hl (fun i j hi hj => hg.cell (a := ⟨b, off + (i * sz + j), none⟩) (hcell i j hi hj).1 (hcell i j hi hj).2) ih

inductive V where
  | un
  | d (x : D)
  | mem (cs : List D)
  | own (k off : Nat)
  | osl (k : Nat)
  | osub (k sz lo n : Nat)
  | optr (k sz i off : Nat)
  | fn (f : Fn) (first cap : List V)
  | ifc (t : TypeId) (v : V)
  | ag (cs : List V)
  | tup (vs : List V)
  | gd (c : Bool) (v : V)

instance : Inhabited V := ⟨.un⟩

abbrev Names := Nat → Option Value

inductive RelV (β : Names) (E : Nat → Prop) (w : World) : Value → V → Prop where
  | un (v : Value) : RelV β E w v .un
  | d (v : Value) (x : D) (h : RelD E w v x) : RelV β E w v (.d x)
  | mem (cs : List D) (b off : Nat) (g : Nat → Value) (hcell : ∀ j, j < cs.length → ¬ E b ∧ w.cell? ⟨b, off + j, none⟩ = some (g j))
      (hrel : ∀ j x, cs[j]? = some x → RelD E w (g j) x) : RelV β E w (.pointer (some ⟨b, off, none⟩)) (.mem cs)
  | own (k off b : Nat) (h : β k = some (.pointer (some ⟨b, 0, none⟩))) : RelV β E w (.pointer (some ⟨b, off, none⟩)) (.own k off)
  | osl (k : Nat) (v : Value) (h : β k = some v) (h1 : v.oneCell' = true) : RelV β E w v (.osl k)
  | osub (k sz lo n b m c : Nat) (a : Addr) (h : β k = some (.slice (some ⟨b, 0, none⟩) m c)) (hn : lo + n ≤ m) (ha : 0 < n → a = ⟨b, lo * sz, none⟩) :
      RelV β E w (.slice (some a) n (c - lo)) (.osub k sz lo n)
  | osub0 (k sz : Nat) (A : Option Addr) (h : β k = some (.slice A 0 0)) : RelV β E w (.slice A 0 0) (.osub k sz 0 0)
  | optr (k sz i off b m c : Nat) (h : β k = some (.slice (some ⟨b, 0, none⟩) m c)) : RelV β E w (.pointer (some ⟨b, i * sz + off, none⟩)) (.optr k sz i off)
  | fn (f : Fn) (fi ca : Array Value) (first cap : List V) (h1 : fi.size = first.length) (h2 : ca.size = cap.length)
      (r1 : ∀ (j : Nat) (v : Value) (x : V), fi[j]? = some v → first[j]? = some x → RelV β E w v x) (r2 : ∀ (j : Nat) (v : Value) (x : V), ca[j]? = some v → cap[j]? = some x → RelV β E w v x) :
      RelV β E w (.func f fi ca) (.fn f first cap)
  | ifc (t : TypeId) (v : Value) (x : V) (h : RelV β E w v x) : RelV β E w (.iface t v) (.ifc t x)
  | ag (arr : Array Value) (cs : List V) (h1 : arr.size = cs.length) (r1 : ∀ (j : Nat) (v : Value) (x : V), arr[j]? = some v → cs[j]? = some x → RelV β E w v x) : RelV β E w (.agg arr) (.ag cs)
  | tup (arr : Array Value) (cs : List V) (h1 : arr.size = cs.length) (r1 : ∀ (j : Nat) (v : Value) (x : V), arr[j]? = some v → cs[j]? = some x → RelV β E w v x) : RelV β E w (.tuple arr) (.tup cs)
  | gd (c : Bool) (v : Value) (x : V) (h : c = true → RelV β E w v x) (h' : c = false → v = undef) : RelV β E w v (.gd c x)

mutual
def V.names : V → List Nat
  | .own k _ => [k]
  | .osl k => [k]
  | .osub k _ _ _ => [k]
  | .optr k _ _ _ => [k]
  | .fn _ a b => namesL a ++ namesL b
  | .ifc _ v => v.names
  | .ag cs => namesL cs
  | .tup cs => namesL cs
  | .gd _ v => v.names
  | .un => []
  | .d _ => []
  | .mem _ => []
def namesL : List V → List Nat
  | [] => []
  | v :: l => v.names ++ namesL l
end

theorem names_mem {l : List V} {j : Nat} {x : V} (h : l[j]? = some x) : ∀ k, k ∈ x.names → k ∈ namesL l := by
  induction l generalizing j with
  | nil => simp at h
  | cons v l ih =>
    intro k hk
    cases j with
    | zero => simp at h; subst h; simp [namesL, hk]
    | succ j => simp at h; simp [namesL, ih h k hk]

theorem RelV.lasts {β β' : Names} {E E' : Nat → Prop} {w w' : World} (hg : Lasts E E' w w') {v : Value} {x : V} (h : RelV β E w v x) :
    (∀ k, k ∈ x.names → β' k = β k) → RelV β' E' w' v x := by
  induction h with
  | un v => exact fun _ => .un v
  | d v x h => exact fun _ => .d v x (h.lasts hg)
  | mem cs b off g hcell hrel =>
    exact fun _ => .mem cs b off g (fun j hj => hg.cell (a := ⟨b, off + j, none⟩) (hcell j hj).1 (hcell j hj).2) (fun j x hx => (hrel j x hx).lasts hg)
  | own k off b h => exact fun hn => .own k off b ((hn k (by simp [V.names])).trans h)
  | osl k v h h1 => exact fun hn => .osl k v ((hn k (by simp [V.names])).trans h) h1
  | osub k sz lo n b m c a h hn' ha => exact fun hn => .osub k sz lo n b m c a ((hn k (by simp [V.names])).trans h) hn' ha
  | osub0 k sz A h => exact fun hn => .osub0 k sz A ((hn k (by simp [V.names])).trans h)
  | optr k sz i off b m c h => exact fun hn => .optr k sz i off b m c ((hn k (by simp [V.names])).trans h)
  | fn f fi ca first cap h1 h2 _ _ ih1 ih2 =>
    exact fun hn => .fn f fi ca first cap h1 h2 (fun j v x hv hx => ih1 j v x hv hx fun k hk => hn k (by simp [V.names, names_mem hx k hk]))
      (fun j v x hv hx => ih2 j v x hv hx fun k hk => hn k (by simp [V.names, names_mem hx k hk]))
  | ifc t v x _ ih => exact fun hn => .ifc t v x (ih fun k hk => hn k (by simpa [V.names] using hk))
  | ag arr cs h1 _ ih => exact fun hn => .ag arr cs h1 fun j v x hv hx => ih j v x hv hx fun k hk => hn k (by simp [V.names, names_mem hx k hk])
  | tup arr cs h1 _ ih => exact fun hn => .tup arr cs h1 fun j v x hv hx => ih j v x hv hx fun k hk => hn k (by simp [V.names, names_mem hx k hk])
  | gd c v x _ h' ih => exact fun hn => .gd c v x (fun hc => ih hc fun k hk => hn k (by simpa [V.names] using hk)) h'

/-- Names that are bound stay bound to what they are. -/
def Names.le (β β' : Names) : Prop := ∀ k v, β k = some v → β' k = some v

theorem Names.le.refl (β : Names) : β.le β := fun _ _ h => h
theorem Names.le.trans {a b c : Names} (h : a.le b) (k : b.le c) : a.le c := fun n v hv => k n v (h n v hv)

theorem RelV.lasts' {β β' : Names} {E E' : Nat → Prop} {w w' : World} (hg : Lasts E E' w w') (hb : β.le β') {v : Value} {x : V} (h : RelV β E w v x) : RelV β' E' w' v x := by
  induction h with
  | un v => exact .un v
  | d v x h => exact .d v x (h.lasts hg)
  | mem cs b off g hcell hrel =>
    exact .mem cs b off g (fun j hj => hg.cell (a := ⟨b, off + j, none⟩) (hcell j hj).1 (hcell j hj).2) (fun j x hx => (hrel j x hx).lasts hg)
  | own k off b h => exact .own k off b (hb _ _ h)
  | osl k v h h1 => exact .osl k v (hb _ _ h) h1
  | osub k sz lo n b m c a h hn' ha => exact .osub k sz lo n b m c a (hb _ _ h) hn' ha
  | osub0 k sz A h => exact .osub0 k sz A (hb _ _ h)
  | optr k sz i off b m c h => exact .optr k sz i off b m c (hb _ _ h)
  | fn f fi ca first cap h1 h2 _ _ ih1 ih2 => exact .fn f fi ca first cap h1 h2 ih1 ih2
  | ifc t v x _ ih => exact .ifc t v x ih
  | ag arr cs h1 _ ih => exact .ag arr cs h1 ih
  | tup arr cs h1 _ ih => exact .tup arr cs h1 ih
  | gd c v x _ h' ih => exact .gd c v x ih h'

theorem RelD.one {E : Nat → Prop} {w : World} {v : Value} {x : D} (h : RelD E w v x) : v.oneCell' = true := by
  cases h <;> first | rfl | assumption

/-- The symbolic values of one cell. -/
def isCell : V → Bool
  | .un => false
  | .ag _ => false
  | .tup _ => false
  | .gd _ _ => false
  | _ => true

theorem RelV.one {β : Names} {E : Nat → Prop} {w : World} {v : Value} {x : V} (h : RelV β E w v x) (hx : isCell x = true) : v.oneCell' = true := by
  cases h <;> first | rfl | assumption | (simp [isCell] at hx; done) | (rename_i h; exact h.one)

/-- A value's cells. -/
def cellsV : V → Option (List V)
  | .ag cs => if cs.all isCell then some cs else none
  | .un => none
  | .tup _ => none
  | .gd _ _ => none
  | x => some [x]

theorem cells_of_one {v : Value} (h : v.oneCell' = true) : v.cells = #[v] := by
  cases v <;> first | rfl | simp [Value.oneCell'] at h

theorem RelV.cells {β : Names} {E : Nat → Prop} {w : World} {v : Value} {x : V} {cs : List V} (h : RelV β E w v x) (hx : cellsV x = some cs) :
    v.cells.size = cs.length ∧ (∀ (j : Nat) (u : Value) (y : V), v.cells[j]? = some u → cs[j]? = some y → RelV β E w u y) ∧ (∀ u, u ∈ v.cells.toList → u.oneCell' = true) := by
  by_cases hc : isCell x = true
  · have h1 := h.one hc
    have e : cs = [x] := by cases x <;> simp [isCell] at hc <;> simp [cellsV] at hx <;> exact hx.symm
    subst e
    rw [cells_of_one h1]
    refine ⟨rfl, fun j u y hu hy => ?_, fun u hu => ?_⟩
    · cases j with
      | zero => simp at hu hy; subst hu; subst hy; exact h
      | succ j => simp at hy
    · simp at hu; subst hu; exact h1
  · cases h with
    | ag arr cs' h1 r1 =>
      simp only [cellsV] at hx
      split at hx
      · rename_i hall
        simp at hx; subst hx
        refine ⟨h1, r1, fun u hu => ?_⟩
        obtain ⟨j, hj, e⟩ := List.getElem_of_mem hu
        have hj' : j < arr.size := by simpa [Value.cells] using hj
        have hjc : j < cs'.length := h1 ▸ hj'
        have hr := r1 j u cs'[j] (by rw [Array.getElem?_eq_getElem hj']; simp [Value.cells] at e; simp [e]) (List.getElem?_eq_getElem hjc)
        exact hr.one (List.all_eq_true.1 hall _ (List.getElem_mem hjc))
      · cases hx
    | _ => simp [isCell] at hc <;> simp [cellsV] at hx

end Go.Bx
