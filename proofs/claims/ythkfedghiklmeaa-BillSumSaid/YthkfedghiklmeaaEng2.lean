/-
  The engine, part 2: the state of a walk (slots, own blocks, names), and what it says of a frame and a world.
-/
import Derived.Test.YthkfedghiklmeaaEng1
namespace Go.Bx
open Go.RowKit

/-- What is known of an own block: its cells one by one; or a slice's row of data; or a slice's row cell by cell. -/
inductive Own where
  | fix (cs : List V)
  | row (e sz n : Nat) (f : Nat → List D)
  | lit (sz n : Nat) (cs : List V)

/-- The block of a pointer, or of a slice that has room. -/
def blkOf : Value → Option Nat
  | .pointer (some a) => some a.block
  | .slice (some a) _ c => if c = 0 then none else some a.block
  | .map (some r) => some r
  | _ => none

def Names.blk (β : Names) (k : Nat) : Option Nat := (β k).bind blkOf

/-- A slice value that owns a row of cells xs: it has no room at all, or it lies at the head of its own block. -/
def RowOk (w : World) (e sz : Nat) (v : Value) (n : Nat) (xs : List Value) : Prop :=
  xs.length = n * sz ∧
  (((∃ a, v = .slice a 0 0) ∧ n = 0) ∨
   ∃ g cap cur, v = .slice (some ⟨g, 0, none⟩) n cap ∧ 0 < cap ∧ w.heap[g]? = some (.cells cur e (0, 0)) ∧ n ≤ cap ∧ cap ≤ maxLen ∧ cur.size = cap * sz ∧ cur.toList.take (n * sz) = xs)

def OwnOk (β : Names) (E : Nat → Prop) (w : World) (k : Nat) : Own → Prop
  | .fix cs => ∃ b arr e, β k = some (.pointer (some ⟨b, 0, none⟩)) ∧ w.heap[b]? = some (.cells arr e (0, 0)) ∧ arr.size = cs.length ∧
      ∀ (j : Nat) (v : Value) (x : V), arr[j]? = some v → cs[j]? = some x → RelV β E w v x
  | .row e sz n f => ∃ v xs, β k = some v ∧ RowOk w e sz v n xs ∧ (∀ i, i < n → (f i).length = sz) ∧
      ∀ i j, i < n → j < sz → ∀ (x : D), (f i)[j]? = some x → ∃ u, xs[i * sz + j]? = some u ∧ RelD E w u x
  | .lit sz n cs => ∃ b arr e cap, β k = some (.slice (some ⟨b, 0, none⟩) n cap) ∧ n ≤ cap ∧ 0 < cap ∧ w.heap[b]? = some (.cells arr e (0, 0)) ∧ arr.size = cs.length ∧ cs.length = n * sz ∧
      ∀ (j : Nat) (v : Value) (x : V), arr[j]? = some v → cs[j]? = some x → RelV β E w v x

def keysO (own : List (Nat × Own)) : List Nat := own.map (·.1)

/-- The blocks that immutable data must not lie in: those shut out from outside, and the own ones. -/
def Eo (E0 : Nat → Prop) (β : Names) (own : List (Nat × Own)) : Nat → Prop := fun b => E0 b ∨ ∃ k, k ∈ keysO own ∧ β.blk k = some b

structure OwnsOk (E0 : Nat → Prop) (β : Names) (w : World) (own : List (Nat × Own)) : Prop where
  ok : ∀ k o, (k, o) ∈ own → OwnOk β (Eo E0 β own) w k o
  nodup : (keysO own).Nodup
  apart : ∀ k k', k ∈ keysO own → k' ∈ keysO own → k ≠ k' → ∀ b, β.blk k = some b → β.blk k' ≠ some b
  lt : ∀ k, k ∈ keysO own → ∀ b, β.blk k = some b → b < w.heap.size ∧ ¬ E0 b

/-- All old blocks stay as they are, but those that L holds. -/
structure Keeps (L : Nat → Prop) (w w' : World) : Prop where
  os : w'.os = w.os
  tape : w'.tape = w.tape
  output : w'.output = w.output
  size : w.heap.size ≤ w'.heap.size
  block : ∀ b, b < w.heap.size → ¬ L b → w'.heap[b]? = w.heap[b]?

theorem Keeps.refl (L : Nat → Prop) (w : World) : Keeps L w w := ⟨rfl, rfl, rfl, Nat.le_refl _, fun _ _ _ => rfl⟩
theorem Keeps.trans {L : Nat → Prop} {a b c : World} (h : Keeps L a b) (k : Keeps L b c) : Keeps L a c :=
  ⟨k.os.trans h.os, k.tape.trans h.tape, k.output.trans h.output, Nat.le_trans h.size k.size, fun i hi hl => (k.block i (Nat.lt_of_lt_of_le hi h.size) hl).trans (h.block i hi hl)⟩
theorem Keeps.trans' {L L' : Nat → Prop} {a b c : World} (h : Keeps L a b) (k : Keeps L' b c) (hL : ∀ i, i < a.heap.size → L' i → L i) : Keeps L a c :=
  ⟨k.os.trans h.os, k.tape.trans h.tape, k.output.trans h.output, Nat.le_trans h.size k.size, fun i hi hl => (k.block i (Nat.lt_of_lt_of_le hi h.size) (fun x => hl (hL i hi x))).trans (h.block i hi hl)⟩
theorem Keeps.mono {L L' : Nat → Prop} {a b : World} (h : Keeps L a b) (hL : ∀ i, L i → L' i) : Keeps L' a b :=
  ⟨h.os, h.tape, h.output, h.size, fun i hi hl => h.block i hi (fun x => hl (hL i x))⟩
theorem Keeps.below {L : Nat → Prop} {w w' : World} (h : Keeps L w w') (hL : ∀ b, b < w.heap.size → ¬ L b) : Below w.heap.size w w' :=
  ⟨h.os, h.tape, h.output, h.size, fun b hb => h.block b hb (hL b hb)⟩

structure St where
  env : List (Nat × V)
  own : List (Nat × Own)
  nm : List Nat

def get : List (Nat × V) → Nat → V
  | [], _ => .un
  | (k, v) :: l, s => if k = s then v else get l s

def own? : List (Nat × Own) → Nat → Option Own
  | [], _ => none
  | (k, o) :: l, s => if k = s then some o else own? l s

structure Ctx where
  P : Program
  E0 : Nat → Prop
  w0 : World
  L : Nat → Prop
  nt : Nat
  fn : List Nat
  fx : Names
  hE : ∀ b, E0 b → b < w0.heap.size
  hEL : ∀ b, E0 b → ¬ L b

structure Holds (c : Ctx) (β : Names) (st : St) (a : Act) (w : World) : Prop where
  sz : a.tmps.size = c.nt
  df : a.defers = []
  env : ∀ s, RelV β (Eo c.E0 β st.own) w (a.tmps.getD s undef) (get st.env s)
  own : OwnsOk c.E0 β w st.own
  fr : ∀ k, k ∈ keysO st.own → ∀ b, β.blk k = some b → c.w0.heap.size ≤ b ∨ c.L b
  kn : ∀ k, k ∈ keysO st.own → k ∈ st.nm
  nm : ∀ k, k ∉ st.nm → β k = none
  kp : Keeps c.L c.w0 w
  fx : ∀ k, k ∈ c.fn → k ∈ st.nm ∧ β k = c.fx k

theorem own?_mem {l : List (Nat × Own)} {k : Nat} {o : Own} (h : own? l k = some o) : (k, o) ∈ l := by
  induction l with
  | nil => simp [own?] at h
  | cons p l ih =>
    obtain ⟨k', o'⟩ := p
    simp only [own?] at h
    split at h
    · rename_i e; simp at h; subst e; subst h; simp
    · exact List.mem_cons_of_mem _ (ih h)

theorem mem_keys {l : List (Nat × Own)} {k : Nat} {o : Own} (h : (k, o) ∈ l) : k ∈ keysO l := List.mem_map.2 ⟨(k, o), h, rfl⟩

theorem keys_mem {l : List (Nat × Own)} {k : Nat} (h : k ∈ keysO l) : ∃ o, (k, o) ∈ l := by
  obtain ⟨⟨k', o⟩, h1, h2⟩ := List.mem_map.1 h
  simp only at h2; subst h2
  exact ⟨o, h1⟩

/-- Own blocks: set one (old or new), strike one. -/
def setO : List (Nat × Own) → Nat → Own → List (Nat × Own)
  | [], k, o => [(k, o)]
  | (k', o') :: l, k, o => if k' = k then (k', o) :: l else (k', o') :: setO l k o
def delO : List (Nat × Own) → Nat → List (Nat × Own)
  | [], _ => []
  | (k', o') :: l, k => if k' = k then l else (k', o') :: delO l k

theorem keys_setO (l : List (Nat × Own)) (k : Nat) (o : Own) : keysO (setO l k o) = if k ∈ keysO l then keysO l else keysO l ++ [k] := by
  induction l with
  | nil => simp [setO, keysO]
  | cons p l ih =>
    obtain ⟨k', o'⟩ := p
    simp only [setO]
    by_cases h : k' = k
    · subst h; simp [keysO]
    · have h' : ¬ k = k' := fun e => h e.symm
      simp only [h, if_false]
      simp only [keysO, List.map_cons, List.mem_cons, h', false_or] at ih ⊢
      rw [ih]; split <;> rename_i hh <;> simp [hh]

theorem mem_setO {l : List (Nat × Own)} {k : Nat} {o : Own} (hn : (keysO l).Nodup) {k1 : Nat} {o1 : Own} (h : (k1, o1) ∈ setO l k o) : (k1 = k ∧ o1 = o) ∨ (k1 ≠ k ∧ (k1, o1) ∈ l) := by
  induction l with
  | nil => simp [setO] at h; exact .inl h
  | cons p l ih =>
    obtain ⟨k', o'⟩ := p
    simp only [keysO, List.map_cons, List.nodup_cons] at hn
    simp only [setO] at h
    split at h
    · rename_i e
      subst e
      rcases List.mem_cons.1 h with h | h
      · simp at h; exact .inl h
      · refine .inr ⟨fun e => hn.1 (e ▸ mem_keys h), List.mem_cons_of_mem _ h⟩
    · rename_i e
      rcases List.mem_cons.1 h with h | h
      · simp at h
        refine .inr ⟨fun e' => e (h.1 ▸ e'), by simp [h]⟩
      · rcases ih hn.2 h with h | h
        · exact .inl h
        · exact .inr ⟨h.1, List.mem_cons_of_mem _ h.2⟩

theorem keys_delO {l : List (Nat × Own)} {k : Nat} (hn : (keysO l).Nodup) (k1 : Nat) : k1 ∈ keysO (delO l k) ↔ k1 ∈ keysO l ∧ k1 ≠ k := by
  induction l with
  | nil => simp [delO, keysO]
  | cons p l ih =>
    obtain ⟨k', o'⟩ := p
    simp only [keysO, List.map_cons, List.nodup_cons] at hn
    have ih := ih hn.2
    simp only [delO]
    split
    · rename_i e; subst e
      simp only [keysO, List.map_cons, List.mem_cons]
      constructor
      · intro h; exact ⟨.inr h, fun e => hn.1 (e ▸ h)⟩
      · rintro ⟨h | h, hne⟩
        · exact absurd h hne
        · exact h
    · rename_i e
      simp only [keysO, List.map_cons, List.mem_cons] at ih ⊢
      rw [ih]
      constructor
      · rintro (h | h)
        · exact ⟨.inl h, fun e' => e (h ▸ e')⟩
        · exact ⟨.inr h.1, h.2⟩
      · rintro ⟨h | h, hne⟩
        · exact .inl h
        · exact .inr ⟨h, hne⟩

theorem nodup_delO {l : List (Nat × Own)} {k : Nat} (hn : (keysO l).Nodup) : (keysO (delO l k)).Nodup := by
  induction l with
  | nil => simp [delO, keysO]
  | cons p l ih =>
    obtain ⟨k', o'⟩ := p
    simp only [keysO, List.map_cons, List.nodup_cons] at hn
    simp only [delO]
    split
    · exact hn.2
    · simp only [keysO, List.map_cons, List.nodup_cons]
      refine ⟨fun h => hn.1 ?_, ih hn.2⟩
      exact ((keys_delO hn.2 k').1 h).1

theorem mem_delO {l : List (Nat × Own)} {k : Nat} {p : Nat × Own} (h : p ∈ delO l k) : p ∈ l := by
  induction l with
  | nil => simp [delO] at h
  | cons q l ih =>
    obtain ⟨k', o'⟩ := q
    simp only [delO] at h
    split at h
    · exact List.mem_cons_of_mem _ h
    · rcases List.mem_cons.1 h with h | h
      · exact h ▸ List.mem_cons_self
      · exact List.mem_cons_of_mem _ (ih h)

theorem nodup_setO {l : List (Nat × Own)} {k : Nat} {o : Own} (hn : (keysO l).Nodup) : (keysO (setO l k o)).Nodup := by
  rw [keys_setO]
  split
  · exact hn
  · rename_i h
    rw [List.nodup_append]
    exact ⟨hn, by simp, by intro a ha b hb; simp at hb; subst hb; exact fun e => h (e ▸ ha)⟩

theorem mem_keys_setO {l : List (Nat × Own)} {k k1 : Nat} {o : Own} : k1 ∈ keysO (setO l k o) ↔ k1 = k ∨ k1 ∈ keysO l := by
  rw [keys_setO]
  split
  · rename_i h
    exact ⟨.inr, fun h' => h'.elim (fun e => e ▸ h) id⟩
  · simp [or_comm]

theorem keys_unique {l : List (Nat × Own)} (hn : (keysO l).Nodup) {k : Nat} {o o' : Own} (h : (k, o) ∈ l) (h' : (k, o') ∈ l) : o = o' := by
  induction l with
  | nil => simp at h
  | cons p l ih =>
    obtain ⟨k1, o1⟩ := p
    simp only [keysO, List.map_cons, List.nodup_cons] at hn
    rcases List.mem_cons.1 h with h | h <;> rcases List.mem_cons.1 h' with h' | h'
    · simp at h h'; rw [h.2, h'.2]
    · simp at h; exact absurd (h.1 ▸ mem_keys h') hn.1
    · simp at h'; exact absurd (h'.1 ▸ mem_keys h) hn.1
    · exact ih hn.2 h h'

theorem mem_own? {l : List (Nat × Own)} (hn : (keysO l).Nodup) {k : Nat} {o : Own} (h : (k, o) ∈ l) : own? l k = some o := by
  induction l with
  | nil => simp at h
  | cons p l ih =>
    obtain ⟨k1, o1⟩ := p
    simp only [keysO, List.map_cons, List.nodup_cons] at hn
    simp only [own?]
    rcases List.mem_cons.1 h with h | h
    · simp at h; simp [h.1, h.2]
    · have hne : k1 ≠ k := fun e => hn.1 (e ▸ mem_keys h)
      simp [hne, ih hn.2 h]

end Go.Bx
