/-
  The engine, part 3: how a state lasts: a slot that is set, own blocks that are made, changed, handed on.
-/
import Derived.Test.YthkfedghiklmeaaEng2
namespace Go.Bx
open Go.RowKit

theorem OwnOk.key {β : Names} {E : Nat → Prop} {w : World} {k : Nat} {o : Own} (h : OwnOk β E w k o) : ∃ v, β k = some v := by
  cases o with
  | fix cs => obtain ⟨b, arr, e, h1, _⟩ := h; exact ⟨_, h1⟩
  | row e sz n f => obtain ⟨v, xs, h1, _⟩ := h; exact ⟨_, h1⟩
  | lit sz n cs => obtain ⟨b, arr, e, cap, h1, _⟩ := h; exact ⟨_, h1⟩

theorem RowOk.lasts {w w' : World} {e sz n : Nat} {v : Value} {xs : List Value} (h : RowOk w e sz v n xs) (hb : ∀ b, blkOf v = some b → w'.heap[b]? = w.heap[b]?) : RowOk w' e sz v n xs := by
  refine ⟨h.1, ?_⟩
  rcases h.2 with h | ⟨g, cap, cur, rfl, hc, hh, rest⟩
  · exact .inl h
  · exact .inr ⟨g, cap, cur, rfl, hc, (hb g (by simp [blkOf]; omega)).trans hh, rest⟩

theorem OwnOk.lasts {β β' : Names} {E E' : Nat → Prop} {w w' : World} {k : Nat} {o : Own} (h : OwnOk β E w k o) (hl : Lasts E E' w w') (hβ : β.le β')
    (hb : ∀ b, β.blk k = some b → w'.heap[b]? = w.heap[b]?) : OwnOk β' E' w' k o := by
  cases o with
  | fix cs =>
    obtain ⟨b, arr, e, h1, h2, h3, h4⟩ := h
    exact ⟨b, arr, e, hβ _ _ h1, (hb b (by simp [Names.blk, h1, blkOf])).trans h2, h3, fun j v x hv hx => (h4 j v x hv hx).lasts' hl hβ⟩
  | row e sz n f =>
    obtain ⟨v, xs, h1, h2, h3, h4⟩ := h
    refine ⟨v, xs, hβ _ _ h1, h2.lasts (fun b hv => hb b (by simp [Names.blk, h1, hv])), h3, fun i j hi hj x hx => ?_⟩
    obtain ⟨u, hu, hr⟩ := h4 i j hi hj x hx
    exact ⟨u, hu, hr.lasts hl⟩
  | lit sz n cs =>
    obtain ⟨b, arr, e, cap, h1, h0, hc, h2, h3, h5, h4⟩ := h
    exact ⟨b, arr, e, cap, hβ _ _ h1, h0, hc, (hb b (by simp [Names.blk, h1, blkOf]; omega)).trans h2, h3, h5, fun j v x hv hx => (h4 j v x hv hx).lasts' hl hβ⟩

theorem Names.le.blk {β β' : Names} (h : β.le β') {k : Nat} {v : Value} (hk : β k = some v) : β'.blk k = β.blk k := by
  simp [Names.blk, hk, h k v hk]

/-- The own blocks of a state, in a world. -/
def ownB (β : Names) (own : List (Nat × Own)) : Nat → Prop := fun b => ∃ k, k ∈ keysO own ∧ β.blk k = some b

/-- A step that leaves the slots alone: new names, new own blocks, a world in which only own blocks have changed. -/
theorem Holds.change {c : Ctx} {β β' : Names} {st : St} {a : Act} {w w' : World} {own' : List (Nat × Own)} {nm' : List Nat} (h : Holds c β st a w) (hβ : β.le β')
    (hk : Keeps (ownB β st.own) w w') (hown : OwnsOk c.E0 β' w' own')
    (hb : ∀ k, k ∈ keysO own' → ∀ b, β'.blk k = some b → w.heap.size ≤ b ∨ ownB β st.own b)
    (hkn : ∀ k, k ∈ keysO own' → k ∈ nm') (hnm : ∀ k, k ∉ nm' → β' k = none) (hnn : ∀ k, k ∈ st.nm → k ∈ nm' ∧ β' k = β k) : Holds c β' ⟨st.env, own', nm'⟩ a w' := by
  have hl : Lasts (Eo c.E0 β st.own) (Eo c.E0 β' own') w w' := by
    intro b hb1 hb2
    refine ⟨fun hE => ?_, hk.block b hb1 (fun ⟨k, hk1, hk2⟩ => hb2 (.inr ⟨k, hk1, hk2⟩))⟩
    rcases hE with hE | ⟨k, hk1, hk2⟩
    · exact hb2 (.inl hE)
    · rcases hb k hk1 b hk2 with h1 | h1
      · omega
      · exact hb2 (.inr h1)
  have hown0 : ∀ i, ownB β st.own i → i < c.w0.heap.size → c.L i := by
    rintro i ⟨k, hk1, hk2⟩ hi
    rcases h.fr k hk1 i hk2 with h1 | h1
    · omega
    · exact h1
  refine ⟨h.sz, h.df, fun s => (h.env s).lasts' hl hβ, hown, fun k hk1 b hb1 => ?_, hkn, hnm, h.kp.trans' hk (fun i hi ho => hown0 i ho hi), fun k hk => ⟨(hnn k (h.fx k hk).1).1, (hnn k (h.fx k hk).1).2.trans (h.fx k hk).2⟩⟩
  rcases hb k hk1 b hb1 with h1 | ⟨k0, h1, h2⟩
  · exact .inl (Nat.le_trans h.kp.size h1)
  · exact h.fr k0 h1 b h2

theorem Act.getD_put (a : Act) (d s : Nat) (v : Value) (hd : d < a.tmps.size) : (a.put (some d) v).tmps.getD s undef = if d = s then v else a.tmps.getD s undef := by
  simp only [Act.put, Array.getD_eq_getD_getElem?, Array.getElem?_setIfInBounds]
  split
  · rename_i h; subst h; simp
  · rfl

/-- A slot is set. -/
theorem Holds.setV {c : Ctx} {β : Names} {st : St} {a : Act} {w : World} (h : Holds c β st a w) {d : Nat} (hd : d < c.nt) {v : Value} {x : V}
    (hv : RelV β (Eo c.E0 β st.own) w v x) : Holds c β ⟨(d, x) :: st.env, st.own, st.nm⟩ (a.put (some d) v) w := by
  refine ⟨by simp [Act.put, h.sz], by simp [Act.put, h.df], fun s => ?_, h.own, h.fr, h.kn, h.nm, h.kp, h.fx⟩
  rw [Act.getD_put a d s v (h.sz ▸ hd)]
  simp only [get]
  split
  · exact hv
  · exact h.env s

/-- An own block that is made, or changed in place, or takes another's place. 'k0' (if it is not the name itself) is struck; the others stay as they are. -/
theorem OwnsOk.set {E0 : Nat → Prop} {β β' : Names} {w w' : World} {own : List (Nat × Own)} (h : OwnsOk E0 β w own) {k : Nat} {o : Own} (hβ : β.le β')
    (own1 : List (Nat × Own)) (hn1 : (keysO own1).Nodup) (hsub : ∀ p, p ∈ own1 → p ∈ own)
    (hw : ∀ k1, k1 ∈ keysO own1 → k1 ≠ k → ∀ b, β.blk k1 = some b → w'.heap[b]? = w.heap[b]? ∧ β'.blk k ≠ some b)
    (hl : Lasts (Eo E0 β own) (Eo E0 β' (setO own1 k o)) w w') (hsz : w.heap.size ≤ w'.heap.size)
    (hb : ∀ b, β'.blk k = some b → b < w'.heap.size ∧ ¬ E0 b)
    (ho : OwnOk β' (Eo E0 β' (setO own1 k o)) w' k o) : OwnsOk E0 β' w' (setO own1 k o) := by
  have hkey : ∀ k1, k1 ∈ keysO own1 → β'.blk k1 = β.blk k1 := by
    intro k1 hk1
    obtain ⟨o1, ho1⟩ := keys_mem hk1
    obtain ⟨v, hv⟩ := (h.ok k1 o1 (hsub _ ho1)).key
    exact hβ.blk hv
  have hk1 : ∀ k1, k1 ∈ keysO own1 → k1 ∈ keysO own := fun k1 hk1 => by
    obtain ⟨o1, ho1⟩ := keys_mem hk1
    exact mem_keys (hsub _ ho1)
  refine ⟨fun k1 o1 h1 => ?_, nodup_setO hn1, fun k1 k2 h1 h2 hne b hb1 hb2 => ?_, fun k1 h1 b hb1 => ?_⟩
  · rcases mem_setO hn1 h1 with ⟨rfl, rfl⟩ | ⟨hne, h1⟩
    · exact ho
    · exact (h.ok k1 o1 (hsub _ h1)).lasts hl hβ (fun b hb1 => (hw k1 (mem_keys h1) hne b hb1).1)
  · rcases mem_keys_setO.1 h1 with e1 | h1' <;> rcases mem_keys_setO.1 h2 with e2 | h2'
    · exact hne (e1.trans e2.symm)
    · by_cases e2 : k2 = k
      · exact hne (e1.trans e2.symm)
      · subst e1
        rw [hkey k2 h2'] at hb2
        exact (hw k2 h2' e2 b hb2).2 hb1
    · by_cases e1 : k1 = k
      · exact hne (e1.trans e2.symm)
      · subst e2
        rw [hkey k1 h1'] at hb1
        exact (hw k1 h1' e1 b hb1).2 hb2
    · rw [hkey k1 h1'] at hb1
      rw [hkey k2 h2'] at hb2
      exact h.apart k1 k2 (hk1 k1 h1') (hk1 k2 h2') hne b hb1 hb2
  · by_cases e : k1 = k
    · subst e; exact hb b hb1
    · rcases mem_keys_setO.1 h1 with e1 | h1'
      · exact absurd e1 e
      · rw [hkey k1 h1'] at hb1
        obtain ⟨x, y⟩ := h.lt k1 (hk1 k1 h1') b hb1
        exact ⟨by omega, y⟩

end Go.Bx
