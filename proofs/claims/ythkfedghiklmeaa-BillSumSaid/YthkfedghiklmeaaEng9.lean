/-
  The engine, part 9: operations that make memory or write into it.
-/
import Derived.Test.YthkfedghiklmeaaEng8
namespace Go.Bx
open Go.RowKit

/-- A name that is bound anew. -/
def Names.bind (β : Names) (k : Nat) (v : Value) : Names := fun n => if n = k then some v else β n

theorem Names.bind_same (β : Names) (k : Nat) (v : Value) : (β.bind k v) k = some v := by simp [Names.bind]
theorem Names.bind_le {β : Names} {k : Nat} (h : β k = none) (v : Value) : β.le (β.bind k v) := fun n u hu => by
  unfold Names.bind
  split
  · rename_i e; subst e; rw [h] at hu; cases hu
  · exact hu

theorem Eo_setO_same {E0 : Nat → Prop} {β : Names} {own : List (Nat × Own)} {k : Nat} {o : Own} (hk : k ∈ keysO own) : Eo E0 β (setO own k o) = Eo E0 β own := by
  funext b
  unfold Eo
  rw [keys_setO, if_pos hk]

section
variable {c : Ctx} {β : Names} {st : St} {a : Act} {w : World} {o : Oper} {d : Nat}

/-- An own block that is made. -/
theorem Holds.addOwn (H : Holds c β st a w) {w' : World} (hk : Keeps (fun _ => False) w w') {k : Nat} (hn : k ∉ st.nm) {val : Value} {ow : Own}
    (hb : ∀ b, blkOf val = some b → w.heap.size ≤ b ∧ b < w'.heap.size)
    (ho : ∀ β' E', β.le β' → β' k = some val → Lasts (Eo c.E0 β st.own) E' w w' → OwnOk β' E' w' k ow) :
    ∃ β', β.le β' ∧ β' k = some val ∧ Holds c β' ⟨st.env, setO st.own k ow, k :: st.nm⟩ a w' := by
  have hβ : β.le (β.bind k val) := Names.bind_le (H.nm k hn) val
  have hkn : k ∉ keysO st.own := fun h => hn (H.kn k h)
  have hblk : (β.bind k val).blk k = blkOf val := by simp [Names.blk, Names.bind_same]
  have hold : ∀ k1, k1 ∈ keysO st.own → (β.bind k val).blk k1 = β.blk k1 := fun k1 h1 => by
    obtain ⟨o1, ho1⟩ := keys_mem h1
    obtain ⟨v, hv⟩ := (H.own.ok k1 o1 ho1).key
    exact hβ.blk hv
  have hl : Lasts (Eo c.E0 β st.own) (Eo c.E0 (β.bind k val) (setO st.own k ow)) w w' := by
    intro b hb1 hb2
    refine ⟨fun hE => ?_, hk.block b hb1 id⟩
    rcases hE with hE | ⟨k1, h1, h2⟩
    · exact hb2 (.inl hE)
    · rcases mem_keys_setO.1 h1 with rfl | h1
      · rw [hblk] at h2
        have := (hb b h2).1
        omega
      · rw [hold k1 h1] at h2
        exact hb2 (.inr ⟨k1, h1, h2⟩)
  refine ⟨β.bind k val, hβ, Names.bind_same _ _ _, H.change hβ (hk.mono (fun _ h => h.elim)) ?_ ?_ ?_ ?_ (fun k1 h1 => ⟨List.mem_cons_of_mem _ h1, by unfold Names.bind; rw [if_neg (fun (e : k1 = k) => hn (e ▸ h1))]⟩)⟩
  · refine H.own.set hβ st.own H.own.nodup (fun _ h => h) (fun k1 h1 _ b hb1 => ⟨hk.block b (H.own.lt k1 h1 b hb1).1 id, fun h => ?_⟩) hl hk.size (fun b h => ?_) (ho _ _ hβ (Names.bind_same _ _ _) hl)
    · rw [hblk] at h
      have := (hb b h).1
      have := (H.own.lt k1 h1 b hb1).1
      omega
    · rw [hblk] at h
      refine ⟨(hb b h).2, fun h0 => ?_⟩
      have h1 := c.hE b h0
      have h2 := (hb b h).1
      have h3 := H.kp.size
      omega
  · intro k1 h1 b h2
    rcases mem_keys_setO.1 h1 with rfl | h1
    · rw [hblk] at h2; exact .inl (hb b h2).1
    · rw [hold k1 h1] at h2; exact .inr ⟨k1, h1, h2⟩
  · intro k1 h1
    rcases mem_keys_setO.1 h1 with rfl | h1
    · simp
    · simp [H.kn k1 h1]
  · intro k1 h1
    simp at h1
    simp [Names.bind, h1.1, H.nm k1 h1.2]

/-- An own block that is changed in place. -/
theorem Holds.updOwn (H : Holds c β st a w) {w' : World} {k : Nat} {ow : Own} (hkk : k ∈ keysO st.own) (hk : Keeps (fun b => β.blk k = some b) w w') 
    (ho : ∀ E', Lasts (Eo c.E0 β st.own) E' w w' → E' = Eo c.E0 β st.own → OwnOk β E' w' k ow) : Holds c β ⟨st.env, setO st.own k ow, st.nm⟩ a w' := by
  have hE : Eo c.E0 β (setO st.own k ow) = Eo c.E0 β st.own := Eo_setO_same hkk
  have hl : Lasts (Eo c.E0 β st.own) (Eo c.E0 β (setO st.own k ow)) w w' := by
    intro b hb1 hb2
    rw [hE]
    exact ⟨hb2, hk.block b hb1 (fun h => hb2 (.inr ⟨k, hkk, h⟩))⟩
  refine H.change (Names.le.refl β) (hk.mono (fun b h => ⟨k, hkk, h⟩)) ?_ ?_ ?_ H.nm (fun k1 h1 => ⟨h1, rfl⟩)
  · refine H.own.set (Names.le.refl β) st.own H.own.nodup (fun _ h => h) (fun k1 h1 hne b hb1 => ⟨hk.block b (H.own.lt k1 h1 b hb1).1 (fun h => ?_), fun h => ?_⟩) hl hk.size (fun b h => ?_) (ho _ hl hE)
    · exact H.own.apart k1 k h1 hkk hne b hb1 h
    · exact H.own.apart k1 k h1 hkk hne b hb1 h
    · obtain ⟨x, y⟩ := H.own.lt k hkk b h
      have := hk.size
      exact ⟨by omega, y⟩
  · intro k1 h1 b h2
    have : k1 ∈ keysO st.own := (mem_keys_setO.1 h1).elim (fun e => e ▸ hkk) id
    exact .inr ⟨k1, this, h2⟩
  · intro k1 h1
    exact (mem_keys_setO.1 h1).elim (fun e => e ▸ H.kn k hkk) (H.kn k1)

/-- An own block that takes another one's place. -/
theorem Holds.replOwn (H : Holds c β st a w) {w' : World} {k0 k : Nat} (hk0 : k0 ∈ keysO st.own) (hn : k ∉ st.nm) {val : Value} {ow : Own} (hk : Keeps (fun b => β.blk k0 = some b) w w')
    (hb : ∀ b, blkOf val = some b → β.blk k0 = some b ∨ (w.heap.size ≤ b ∧ b < w'.heap.size))
    (ho : ∀ β' E', β.le β' → β' k = some val → Lasts (Eo c.E0 β st.own) E' w w' → OwnOk β' E' w' k ow) :
    ∃ β', β.le β' ∧ β' k = some val ∧ Holds c β' ⟨st.env, setO (delO st.own k0) k ow, k :: st.nm⟩ a w' := by
  have hβ : β.le (β.bind k val) := Names.bind_le (H.nm k hn) val
  have hblk : (β.bind k val).blk k = blkOf val := by simp [Names.blk, Names.bind_same]
  have hold : ∀ k1, k1 ∈ keysO st.own → (β.bind k val).blk k1 = β.blk k1 := fun k1 h1 => by
    obtain ⟨o1, ho1⟩ := keys_mem h1
    obtain ⟨v, hv⟩ := (H.own.ok k1 o1 ho1).key
    exact hβ.blk hv
  have hdel := fun k1 => keys_delO (l := st.own) (k := k0) H.own.nodup k1
  have hl : Lasts (Eo c.E0 β st.own) (Eo c.E0 (β.bind k val) (setO (delO st.own k0) k ow)) w w' := by
    intro b hb1 hb2
    refine ⟨fun hE => ?_, hk.block b hb1 (fun h => hb2 (.inr ⟨k0, hk0, h⟩))⟩
    rcases hE with hE | ⟨k1, h1, h2⟩
    · exact hb2 (.inl hE)
    · rcases mem_keys_setO.1 h1 with rfl | h1
      · rw [hblk] at h2
        rcases hb b h2 with h3 | h3
        · exact hb2 (.inr ⟨k0, hk0, h3⟩)
        · omega
      · have h1' := ((hdel k1).1 h1).1
        rw [hold k1 h1'] at h2
        exact hb2 (.inr ⟨k1, h1', h2⟩)
  refine ⟨β.bind k val, hβ, Names.bind_same _ _ _, H.change hβ (hk.mono (fun b h => ⟨k0, hk0, h⟩)) ?_ ?_ ?_ ?_ (fun k1 h1 => ⟨List.mem_cons_of_mem _ h1, by unfold Names.bind; rw [if_neg (fun (e : k1 = k) => hn (e ▸ h1))]⟩)⟩
  · refine H.own.set hβ (delO st.own k0) (nodup_delO H.own.nodup) (fun _ h => mem_delO h) (fun k1 h1 _ b hb1 => ?_) hl hk.size (fun b h => ?_) (ho _ _ hβ (Names.bind_same _ _ _) hl)
    · obtain ⟨h1', hne0⟩ := (hdel k1).1 h1
      refine ⟨hk.block b (H.own.lt k1 h1' b hb1).1 (fun h => H.own.apart k1 k0 h1' hk0 hne0 b hb1 h), fun h => ?_⟩
      rw [hblk] at h
      rcases hb b h with h3 | h3
      · exact H.own.apart k1 k0 h1' hk0 hne0 b hb1 h3
      · have := (H.own.lt k1 h1' b hb1).1
        omega
    · rw [hblk] at h
      rcases hb b h with h3 | h3
      · obtain ⟨x, y⟩ := H.own.lt k0 hk0 b h3
        have := hk.size
        exact ⟨by omega, y⟩
      · refine ⟨h3.2, fun h0 => ?_⟩
        have h1 := c.hE b h0
        have h2 := H.kp.size
        omega
  · intro k1 h1 b h2
    rcases mem_keys_setO.1 h1 with rfl | h1
    · rw [hblk] at h2
      rcases hb b h2 with h3 | h3
      · exact .inr ⟨k0, hk0, h3⟩
      · exact .inl h3.1
    · have h1' := ((hdel k1).1 h1).1
      rw [hold k1 h1'] at h2; exact .inr ⟨k1, h1', h2⟩
  · intro k1 h1
    rcases mem_keys_setO.1 h1 with rfl | h1
    · simp
    · simp [H.kn k1 ((hdel k1).1 h1).1]
  · intro k1 h1
    simp at h1
    simp [Names.bind, h1.1, H.nm k1 h1.2]

theorem keeps_alloc (w : World) (ob : Obj) : Keeps (fun _ => False) w (w.alloc ob) :=
  ⟨rfl, rfl, rfl, by simp, fun _ hb _ => heap_alloc_old w ob hb⟩

/-- A value that lies in a new block, behind a name. -/
theorem Runs.mk (H : Holds c β st a w) (hdst : o.dst = some d) (hd : d < c.nt) (hn : d ∉ st.nm) {v : Value} {w' : World} (hr : (execOp a.eval o).run c.P w = .ok (.value v) w')
    (hk : Keeps (fun _ => False) w w') {ow : Own} {x : V} {sd : Prop} {rd : List Nat} (hb : ∀ b, blkOf v = some b → w.heap.size ≤ b ∧ b < w'.heap.size)
    (ho : ∀ β' E', β.le β' → β' d = some v → Lasts (Eo c.E0 β st.own) E' w w' → OwnOk β' E' w' d ow)
    (hx : ∀ β' E', β' d = some v → RelV β' E' w' v x) : Runs c β (st.app o.dst { side := sd, val := x, upd := [(d, some ow)], rd := rd }) a o w := by
  obtain ⟨β', h1, h2, h3⟩ := H.addOwn hk hn hb ho
  refine ⟨v, w', β', .inl hr, h1, ?_⟩
  rw [hdst]
  have := h3.setV hd (hx β' (Eo c.E0 β' (setO st.own d ow)) h2)
  simpa [St.app, setE, applyU, newN, hn] using this

theorem cVs_cells {β : Names} {E : Nat → Prop} {w : World} {arr : Array Value} {cs : List V} (h : cVs arr.toList = some cs) :
    arr.size = cs.length ∧ ∀ (j : Nat) (v : Value) (x : V), arr[j]? = some v → cs[j]? = some x → RelV β E w v x := by
  obtain ⟨e, hr⟩ := cVs_ok (β := β) (E := E) (w := w) h
  exact ⟨by simpa using e, fun j v x hv hx => (hr j v x (by simpa using hv) hx).1⟩

theorem s_alloc (H : Holds c β st a w) (hdst : o.dst = some d) (hd : d < c.nt) {e : TypeId} {cs : List V} (ho : o.op = .alloc e) (hz : zeroB c.P e = some cs)
    (hf : (opR st true d (.alloc e cs)).side) : Runs c β (st.app o.dst (opR st true d (.alloc e cs))) a o w := by
  simp only [opR] at hf ⊢
  obtain ⟨i, hi, z, hzz, hcs⟩ : ∃ i, c.P.info? e = some i ∧ ∃ z, i.zero = some z ∧ cVs z.cells.toList = some cs := by
    unfold zeroB at hz
    cases hi : c.P.info? e with
    | none => simp [hi] at hz
    | some i =>
      simp only [hi, Option.bind_some] at hz
      cases hzz : i.zero with
      | none => simp [hzz] at hz
      | some z => simp only [hzz] at hz; exact ⟨i, rfl, z, hzz, hz⟩
  · refine Runs.mk H hdst hd hf (v := .pointer (some ⟨w.heap.size, 0, none⟩)) (w' := w.alloc (.cells z.cells e)) ?_ (keeps_alloc _ _) (fun b hb => ?_) (fun β' E' hβ hk hl => ?_) (fun β' E' hk => .own _ _ _ hk)
    · simp [execOp, ho, Instr.alloc, zeroValue, typeInfo, hi, hzz, newVar, newRow]
    · simp [blkOf] at hb; subst hb; simp
    · obtain ⟨e1, hr⟩ := cVs_cells (β := β') (E := E') (w := w.alloc (.cells z.cells e)) hcs
      exact ⟨w.heap.size, z.cells, e, hk, heap_alloc_new w _, e1, hr⟩

theorem s_box (H : Holds c β st a w) (hdst : o.dst = some d) (hd : d < c.nt) {e : TypeId} {ox : Operand} {x : X} (ho : o.op = .box e ox) (hx : cX ox = some x)
    (hf : (opR st true d (.box e x)).side) : Runs c β (st.app o.dst (opR st true d (.box e x))) a o w := by
  simp only [opR] at hf ⊢
  split at hf
  · rename_i cs h1
    obtain ⟨hs, hn⟩ := hf
    have e1 := evV_ok H hx hs
    obtain ⟨h2, h3, _⟩ := e1.cells h1
    refine Runs.mk H hdst hd hn (v := .pointer (some ⟨w.heap.size, 0, none⟩)) (w' := w.alloc (.cells (a.eval ox).cells e)) ?_ (keeps_alloc _ _) (fun b hb => ?_) (fun β' E' hβ hk hl => ?_) (fun β' E' hk => .own _ _ _ hk)
    · simp [execOp, ho, Instr.box, newVar, newRow]
    · simp [blkOf] at hb; subst hb; simp
    · exact ⟨w.heap.size, _, e, hk, heap_alloc_new w _, h2, fun j v x hv hx => (h3 j v x hv hx).lasts' hl hβ⟩
  · exact hf.elim

theorem catV_len {sz : Nat} : ∀ {l : List V} {cs : List V}, catV sz l = some cs → cs.length = l.length * sz
  | [], cs, h => by simp [catV] at h; subst h; simp
  | v :: l, cs, h => by
    simp only [catV] at h
    split at h
    · rename_i ys zs h1 h2
      split at h
      · rename_i e
        simp at h; subst h
        have := catV_len h2
        simp [this, e, Nat.add_mul]; omega
      · cases h
    · cases h

theorem zipIdx_fold_size (base : Nat) : ∀ (l : List (Value × Nat)) (cells : Array Value), (l.foldl (fun cs (p : Value × Nat) => cs.setIfInBounds (base + p.2) p.1) cells).size = cells.size
  | [], _ => rfl
  | p :: l, cells => by simp only [List.foldl_cons]; rw [zipIdx_fold_size base l]; simp

theorem zipIdx_fold (base : Nat) : ∀ (l : List Value) (k : Nat) (cells : Array Value) (j : Nat),
    ((l.zipIdx k).foldl (fun cs (p : Value × Nat) => cs.setIfInBounds (base + p.2) p.1) cells)[j]? =
      if base + k ≤ j ∧ j < base + k + l.length ∧ j < cells.size then l[j - (base + k)]? else cells[j]?
  | [], k, cells, j => by
    simp only [List.zipIdx_nil, List.foldl_nil, List.length_nil]
    split
    · omega
    · rfl
  | v :: l, k, cells, j => by
    simp only [List.zipIdx_cons, List.foldl_cons]
    rw [zipIdx_fold base l (k + 1)]
    simp only [Array.size_setIfInBounds, List.length_cons]
    by_cases h1 : base + (k + 1) ≤ j ∧ j < base + (k + 1) + l.length ∧ j < cells.size
    · rw [if_pos h1, if_pos (by omega)]
      have : j - (base + k) = (j - (base + (k + 1))) + 1 := by omega
      rw [this]; simp
    · rw [if_neg h1]
      rw [Array.getElem?_setIfInBounds]
      by_cases h2 : base + k = j
      · subst h2
        by_cases h3 : base + k < cells.size
        · rw [if_pos rfl, if_pos h3, if_pos (by omega)]; simp
        · rw [if_pos rfl, if_neg h3, if_neg (by omega)]
          simp at h3
          rw [Array.getElem?_eq_none (by omega)]
      · rw [if_neg h2, if_neg (by omega)]

/-- What 'fill' makes of parts that are all there, in order. -/
theorem fill_row {sz : Nat} : ∀ (vs : List Value) (k : Nat) (cells : Array Value), (∀ v, v ∈ vs → v.cells.size = sz) → (k + vs.length) * sz ≤ cells.size →
    ∃ out, Instr.fill (fun i => some (i * sz, sz)) cells ((vs.zipIdx k).map fun p => (p.2, p.1)) = some out ∧ out.size = cells.size ∧
      ∀ j, out[j]? = if k * sz ≤ j ∧ j < (k + vs.length) * sz then (vs.flatMap fun v => v.cells.toList)[j - k * sz]? else cells[j]?
  | [], k, cells, _, _ => by
    refine ⟨cells, by simp [Instr.fill], rfl, fun j => ?_⟩
    rw [if_neg (by simp)]
  | v :: vs, k, cells, hs, hle => by
    have hv := hs v (by simp)
    have hle1 : (k + 1 + vs.length) * sz ≤ cells.size := by rw [show k + 1 + vs.length = k + (v :: vs).length by simp; omega]; exact hle
    have hk1 : k * sz + sz ≤ cells.size := by
      have : (k + 1) * sz ≤ (k + 1 + vs.length) * sz := Nat.mul_le_mul_right _ (by omega)
      rw [Nat.add_mul k 1] at this; omega
    obtain ⟨out, h1, h2, h3⟩ := fill_row vs (k + 1) (v.cells.toList.zipIdx.foldl (fun cs (p : Value × Nat) => cs.setIfInBounds (k * sz + p.2) p.1) cells) (fun u hu => hs u (by simp [hu])) (by rw [zipIdx_fold_size]; exact hle1)
    refine ⟨out, ?_, by rw [h2, zipIdx_fold_size], fun j => ?_⟩
    · simp only [List.zipIdx_cons, List.map_cons, Instr.fill]
      rw [if_neg (by simp [hv]; omega)]
      rw [← Array.foldl_toList]
      simp only [Array.toList_zipIdx]
      exact h1
    · rw [h3]
      have e2 : (k + 1) * sz = k * sz + sz := by rw [Nat.add_mul]; omega
      have e3 : (k + (v :: vs).length) * sz = k * sz + sz + vs.length * sz := by rw [List.length_cons, show k + (vs.length + 1) = k + 1 + vs.length by omega, Nat.add_mul, e2]
      have e4 : (k + 1 + vs.length) * sz = k * sz + sz + vs.length * sz := by rw [Nat.add_mul, e2]
      have hf := zipIdx_fold (k * sz) v.cells.toList 0 cells j
      simp only [List.flatMap_cons]
      by_cases hj : k * sz + sz ≤ j ∧ j < k * sz + sz + vs.length * sz
      · rw [if_pos (by omega), if_pos (by omega), e2]
        rw [List.getElem?_append_right (by simp [hv]; omega)]
        congr 1
        simp [hv]; omega
      · rw [if_neg (by omega), hf]
        simp only [Nat.add_zero, Array.length_toList, hv]
        by_cases hj2 : k * sz ≤ j ∧ j < k * sz + sz
        · rw [if_pos (by omega), if_pos (by omega)]
          rw [List.getElem?_append_left (by simp [hv]; omega)]
        · rw [if_neg (by omega), if_neg (by omega)]

theorem cat_rel {E : Nat → Prop} {sz : Nat} : ∀ {l : List V} {cs : List V} {vs : List Value}, catV sz l = some cs → vs.length = l.length → (∀ (j : Nat) (v : Value) (x : V), vs[j]? = some v → l[j]? = some x → RelV β E w v x) →
    (∀ v, v ∈ vs → v.cells.size = sz) ∧ ∀ (j : Nat) (v : Value) (x : V), (vs.flatMap fun v => v.cells.toList)[j]? = some v → cs[j]? = some x → RelV β E w v x
  | [], cs, vs, h, hl, _ => by
    have : vs = [] := List.eq_nil_of_length_eq_zero (by simpa using hl)
    subst this
    simp
  | y :: l, cs, vs, h, hl, hr => by
    cases vs with
    | nil => simp at hl
    | cons v vs =>
      simp only [catV] at h
      split at h
      · rename_i ys zs h1 h2
        split at h
        · rename_i e
          simp at h; subst h
          obtain ⟨g1, g2, _⟩ := (hr 0 v y rfl rfl).cells h1
          obtain ⟨i1, i2⟩ := cat_rel h2 (by simpa using hl) (fun j u x hu hx => hr (j + 1) u x (by simpa using hu) (by simpa using hx))
          refine ⟨fun u hu => ?_, fun j u x hu hx => ?_⟩
          · rcases List.mem_cons.1 hu with rfl | hu
            · omega
            · exact i1 u hu
          · simp only [List.flatMap_cons] at hu
            by_cases hj : j < ys.length
            · rw [List.getElem?_append_left (by simp [g1]; exact hj)] at hu
              rw [List.getElem?_append_left hj] at hx
              exact g2 j u x (by simpa using hu) hx
            · rw [List.getElem?_append_right (by simp [g1]; omega)] at hu
              rw [List.getElem?_append_right (by omega)] at hx
              simp only [Array.length_toList, g1] at hu
              exact i2 _ u x hu hx
        · cases h
      · cases h

theorem run_bslice (H : Holds c β st a w) {t e : TypeId} {sz len : Nat} {ops : Array (Nat × Operand)} {parts : List X} {cs : List V} (ho : o.op = .buildSlice t len ops) (ht : c.P.underlying t = some (.slice e)) (hz : szB c.P e = some sz) {zc : List V} (hzero : zeroB c.P e = some zc)
    (hlen : ops.size = len) (hidx : ops.toList.map (·.1) = List.range len) (hx : cXs (ops.toList.map (·.2)) = some parts) (hsm : len * sz ≤ 16777216) (h1 : catV sz (evVs st parts) = some cs) (hs : evSs true st parts) :
    ∃ out : Array Value, (execOp a.eval o).run c.P w = .ok (.value (.slice (some ⟨w.heap.size, 0, none⟩) len len)) (w.alloc (.cells out e)) ∧ out.size = cs.length ∧ cs.length = len * sz ∧
      ∀ (j : Nat) (v : Value) (x : V), out[j]? = some v → cs[j]? = some x → RelV β (Eo c.E0 β st.own) w v x := by
  obtain ⟨e1, r1⟩ := evVs_ok H hx hs
  obtain ⟨g1, g2⟩ := cat_rel h1 e1 r1
  obtain ⟨i, hi, hi2⟩ := Option.map_eq_some_iff.1 hz
  obtain ⟨z, hzz⟩ : ∃ z, i.zero = some z := by
    unfold zeroB at hzero
    simp only [hi, Option.bind_some] at hzero
    cases hzz : i.zero with
    | none => simp [hzz] at hzero
    | some z => exact ⟨z, rfl⟩
  have hcl := catV_len h1
  have hll : (evVs st parts).length = len := by rw [← e1]; simp [hlen]
  obtain ⟨z0, hz0⟩ : ∃ z0 : Array Value, z0 = if len * i.size = 0 then #[] else z.cells := ⟨_, rfl⟩
  let zs : Array Value := (Array.range (len * sz)).map (z0[· % z0.size]!)
  have hzs : zs.size = len * sz := by simp [zs]
  obtain ⟨out, f1, f2, f3⟩ := fill_row (sz := sz) ((ops.toList.map (·.2)).map a.eval) 0 zs g1 (by simp [hlen, hzs])
  have hpl : (ops.map fun (p : Nat × Operand) => (p.1, a.eval p.2)).toList = (((ops.toList.map (·.2)).map a.eval).zipIdx 0).map fun p => (p.2, p.1) := by
    apply List.ext_getElem?
    intro j
    simp only [Array.toList_map, List.getElem?_map, List.getElem?_zipIdx, List.map_map]
    cases hj : ops.toList[j]? with
    | none => simp
    | some p =>
      have hjr : (ops.toList.map (·.1))[j]? = some p.1 := by simp [hj]
      rw [hidx] at hjr
      have := List.getElem?_range (n := len) (i := j) (by
        have := (List.getElem?_eq_some_iff.1 hj).1
        simp at this; omega)
      rw [this] at hjr
      simp at hjr
      simp [hjr]
  refine ⟨out, ?_, by rw [f2, hzs, hcl, hll], by rw [hcl, hll], fun j v x hv hx => ?_⟩
  · have hle2 : ¬ (16777216 < len * i.size) := by rw [hi2]; omega
    have hfill : Instr.fill (fun k => some (k * i.size, i.size)) ((Array.range (len * i.size)).map (z0[· % z0.size]!)) (ops.toList.map fun (p : Nat × Operand) => (p.1, a.eval p.2)) = some out := by
      rw [hi2]
      have := f1
      rw [← hpl] at this
      simpa using this
    have hsz : (sizeOf e).run c.P w = .ok i.size w := by simp [sizeOf, typeInfo, hi]
    have hrow : (Instr.buildSlice t len (ops.map fun (p : Nat × Operand) => (p.1, a.eval p.2))).run c.P w = .ok (.slice (some ⟨w.heap.size, 0, none⟩) len len) (w.alloc (.cells out e)) := by
      simp only [Instr.buildSlice, Sem.run_bind, run_underlying ht, Result.andThen_ok, hsz, Nat.reducePow]
      rw [if_neg (by simpa using hle2)]
      by_cases h0 : len * i.size = 0
      · rw [if_pos h0] at hz0 ⊢
        rw [hz0] at hfill
        simp only [Sem.run_bind, Sem.run_pure, Result.andThen_ok, Array.toList_map, hfill]
        simp [newRow]
      · rw [if_neg h0] at hz0 ⊢
        rw [hz0] at hfill
        have hzv : (zeroValue e).run c.P w = .ok z w := by simp [zeroValue, typeInfo, hi, hzz]
        simp only [Sem.run_bind, hzv, Result.andThen_ok, Sem.run_pure, Array.toList_map, hfill]
        simp [newRow]
    have he : execOp a.eval o = (do pure (.value (← Instr.buildSlice t len (ops.map fun (p : Nat × Operand) => (p.1, a.eval p.2))))) := by simp [execOp, ho]
    exact exec_val he hrow
  · have hj : j < len * sz := by
      have := (List.getElem?_eq_some_iff.1 hx).1
      rw [hcl, hll] at this; exact this
    rw [f3] at hv
    rw [if_pos (by simp [hlen]; exact hj)] at hv
    simp only [Nat.zero_mul, Nat.sub_zero] at hv
    exact g2 j v x hv hx

theorem toDs_some' : ∀ {cs : List V} {ds : List D}, toDs cs = some ds → cs = ds.map .d
  | [], ds, h => by simp [toDs] at h; subst h; rfl
  | c :: cs, ds, h => by
    cases c <;> simp [toDs] at h
    rename_i x
    obtain ⟨ds', h1, rfl⟩ := h
    simp [toDs_some' h1]

/-- No block of data of the past is one that isn't there yet. -/
theorem Holds.fresh (H : Holds c β st a w) : ¬ Eo c.E0 β st.own w.heap.size := by
  rintro (h | ⟨k, h1, h2⟩)
  · have h3 := c.hE _ h
    have h4 := H.kp.size
    omega
  · have := (H.own.lt k h1 _ h2).1
    omega

theorem s_bslice (H : Holds c β st a w) (hdst : o.dst = some d) (hd : d < c.nt) {t e : TypeId} {sz len : Nat} {ops : Array (Nat × Operand)} {parts : List X} (ho : o.op = .buildSlice t len ops) (ht : c.P.underlying t = some (.slice e)) (hz : szB c.P e = some sz) {zc : List V} (hzero : zeroB c.P e = some zc)
    (hlen : ops.size = len) (hidx : ops.toList.map (·.1) = List.range len) (hx : cXs (ops.toList.map (·.2)) = some parts) (hsm : len * sz ≤ 16777216)
    (hf : (opR st true d (.bslice e sz len parts)).side) : Runs c β (st.app o.dst (opR st true d (.bslice e sz len parts))) a o w := by
  simp only [opR] at hf ⊢
  split at hf
  · rename_i cs h1
    split at hf
    · rename_i ds hds
      obtain ⟨out, hr, g1, g2, g3⟩ := run_bslice H ho ht hz hzero hlen hidx hx hsm h1 hf.1
      have hcs := toDs_some' hds
      have hk := keeps_alloc w (.cells out e)
      have hl : Lasts (Eo c.E0 β st.own) (Eo c.E0 β st.own) w (w.alloc (.cells out e)) := fun b hb h => ⟨h, hk.block b hb (fun h => h)⟩
      have H2 : Holds c β ⟨st.env, st.own, st.nm⟩ a (w.alloc (.cells out e)) :=
        H.change (Names.le.refl β) (hk.mono (fun _ h => h.elim)) ⟨fun k o h => (H.own.ok k o h).lasts hl (Names.le.refl β) (fun b hb => hk.block b (H.own.lt k (mem_keys h) b hb).1 (fun h => h)), H.own.nodup, H.own.apart, fun k h b hb => ⟨by have := (H.own.lt k h b hb).1; simp; omega, (H.own.lt k h b hb).2⟩⟩
          (fun k h b hb => .inr ⟨k, h, hb⟩) H.kn H.nm (fun k h => ⟨h, rfl⟩)
      refine ⟨_, _, β, .inl hr, Names.le.refl β, ?_⟩
      rw [hdst]
      have hv : RelV β (Eo c.E0 β st.own) (w.alloc (.cells out e)) (.slice (some ⟨w.heap.size, 0, none⟩) len len) (.d (.sl true sz len (litRow sz ds))) := by
        have hdl : ds.length = len * sz := by rw [← g2, hcs]; simp
        have hin : ∀ i j, i < len → j < sz → i * sz + j < len * sz := fun i j hi hj => by
          have : (i + 1) * sz ≤ len * sz := Nat.mul_le_mul_right _ hi
          rw [Nat.add_mul] at this; omega
        refine .d _ _ (.sl _ _ _ _ w.heap.size 0 len (fun i j => out.getD (i * sz + j) undef) (Nat.le_refl _) (fun _ => rfl) (fun i hi => ?_) (fun i j hi hj => ⟨H.fresh, ?_⟩) (fun i j hi hj x hx => ?_))
        · simp only [litRow, List.length_take, List.length_drop]
          have : (i + 1) * sz ≤ len * sz := Nat.mul_le_mul_right _ hi
          rw [Nat.add_mul] at this; omega
        · have := hin i j hi hj
          rw [Nat.zero_add, cell_of_row (w.alloc (.cells out e)) w.heap.size (i * sz + j) out e (0, 0) (heap_alloc_new w _)]
          have hlt : i * sz + j < out.size := by omega
          simp [hlt]
        · have := hin i j hi hj
          have hlt : i * sz + j < out.size := by omega
          have hx2 : cs[i * sz + j]? = some (.d x) := by
            rw [litRow, List.getElem?_take, if_pos hj, List.getElem?_drop] at hx
            rw [hcs]
            simp [hx]
          have hr2 := g3 (i * sz + j) out[i * sz + j] (.d x) (Array.getElem?_eq_getElem hlt) hx2
          simp only [Array.getD_eq_getD_getElem?, Array.getElem?_eq_getElem hlt, Option.getD_some]
          generalize out[i * sz + j] = u at *
          cases hr2 with
          | d _ _ h => exact h.lasts hl
      have := H2.setV hd hv
      simpa [St.app, setE, applyU, newN] using this
    · obtain ⟨hs, hl0, hn⟩ := hf
      obtain ⟨out, hr, g1, g2, g3⟩ := run_bslice H ho ht hz hzero hlen hidx hx hsm h1 hs
      refine Runs.mk H hdst hd hn (v := .slice (some ⟨w.heap.size, 0, none⟩) len len) (w' := w.alloc (.cells out e)) hr (keeps_alloc _ _) (fun b hb => ?_) (fun β' E' hβ hk hl => ?_) (fun β' E' hk => .osl _ _ hk rfl)
      · simp [blkOf, Nat.ne_of_gt hl0] at hb; subst hb; simp
      · exact ⟨w.heap.size, out, e, len, hk, Nat.le_refl _, hl0, heap_alloc_new w _, g1, g2, fun j v x hv hx => (g3 j v x hv hx).lasts' hl hβ⟩
  · exact hf.elim

end
end Go.Bx
