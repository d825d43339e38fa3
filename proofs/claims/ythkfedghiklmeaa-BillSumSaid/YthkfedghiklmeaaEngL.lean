/-
  The engine, part L: what an argument reads as; a law's contract becomes the row's statement.
-/
import Derived.Test.YthkfedghiklmeaaEng23
import Derived.ProofKit
import Derived.Deep.Slices
import Derived.Below
import Derived.Carry
import Derived.ChangeSame
import Derived.OpenShut
namespace Go.Bx
open Go.RowKit Go.WideShapes Go.ChangeShapes

/-- Nothing is shut out. -/
def noE : Nat → Prop := fun _ => False
def noN : Names := fun _ => none

/-- Whatever is read as the type's datum is such data. -/
def Reads (P : Program) (t : TypeId) (sz : Nat) {X : Type} (cells : X → List D) (ok : X → Prop) : Prop :=
  P.cellsOf t = sz ∧ (∀ x, (cells x).length = sz) ∧ ∀ (H : Type) (enc : TypeId × Value → H) (w : World) (fuel : Nat) (cs : List Value) (y : DataW H × List MemPlace),
    DataW.trod enc P w 0 (fun _ => true) true fuel t cs = some y → cs.length = sz ∧ ∃ x, ok x ∧ ∀ (j : Nat) (v : Value) (d : D), cs[j]? = some v → (cells x)[j]? = some d → RelD noE w v d

theorem Reads.int {P : Program} {t : TypeId} {k : IntKind} (ht : P.underlying t = some (.int k)) (hc : P.cellsOf t = 1) : Reads P t 1 (fun n : Int => [.int k n]) (fun n => (Lit.int k n).wf = true) := by
  refine ⟨hc, fun _ => rfl, fun H enc w fuel cs y h => ?_⟩
  obtain ⟨n, rfl, _, hw⟩ := DataW.trod_int ht h
  refine ⟨rfl, n, hw, fun j v d hv hd => ?_⟩
  cases j with
  | zero => simp at hv hd; subst hv; subst hd; exact .int k n
  | succ j => simp at hv

theorem Reads.bool {P : Program} {t : TypeId} (ht : P.underlying t = some .bool) (hc : P.cellsOf t = 1) : Reads P t 1 (fun n : Bool => [.bool n]) (fun _ => True) := by
  refine ⟨hc, fun _ => rfl, fun H enc w fuel cs y h => ?_⟩
  obtain ⟨n, rfl, _⟩ := DataW.trod_bool ht h
  refine ⟨rfl, n, trivial, fun j v d hv hd => ?_⟩
  cases j with
  | zero => simp at hv hd; subst hv; subst hd; exact .bool n
  | succ j => simp at hv

theorem Reads.map {P : Program} {t : TypeId} {sz : Nat} {X Y : Type} {cells : X → List D} {ok : X → Prop} (h : Reads P t sz cells ok) (g : X → Y) (cells' : Y → List D) (ok' : Y → Prop) (hc : ∀ x, cells' (g x) = cells x) (hl : ∀ y, (cells' y).length = sz) (ho : ∀ x, ok x → ok' (g x)) : Reads P t sz cells' ok' := by
  obtain ⟨h1, _, h3⟩ := h
  refine ⟨h1, hl, fun H enc w fuel cs y hy => ?_⟩
  obtain ⟨e, x, hx, hr⟩ := h3 H enc w fuel cs y hy
  exact ⟨e, g x, ho x hx, fun j v d hv hd => hr j v d hv (by rw [hc] at hd; exact hd)⟩

theorem Reads.slice {P : Program} {t e : TypeId} {sz : Nat} {X : Type} [Inhabited X] {cells : X → List D} {ok : X → Prop} (h : Reads P e sz cells ok) (ht : P.underlying t = some (.slice e)) (hc : P.cellsOf t = 1) (h0 : 0 < sz) :
    Reads P t 1 (fun l : List X => [.sl false sz l.length (fun i => cells (l.getD i default))]) (fun l => l.length ≤ maxLen ∧ ∀ x, x ∈ l → ok x) := by
  obtain ⟨h1, h2, h3⟩ := h
  refine ⟨hc, fun _ => rfl, fun H enc w fuel cs y hy => ?_⟩
  rcases Deep.open_slice ht hy with ⟨rfl, _⟩ | ⟨a, len, cap, m, n, D', Pl, rfl, _, hl, hm, hmm, _, hi⟩
  · refine ⟨rfl, [], ⟨Nat.zero_le _, fun x hx => by simp at hx⟩, fun j v d hv hd => ?_⟩
    cases j with
    | zero => simp at hv hd; subst hv; subst hd; exact .nil _ _ _ _
    | succ j => simp at hv
  · rw [if_pos rfl] at hmm
    subst hmm
    have hall : ∀ i, i < m → ∃ x, ok x ∧ ∀ j, j < sz → ∃ v, w.cell? (a.add (i * sz + j)) = some v ∧ ∀ d, (cells x)[j]? = some d → RelD noE w v d := fun i him => by
      obtain ⟨cs', hc', ht'⟩ := hi i him
      rw [h1] at hc'
      obtain ⟨_, hcl, hat⟩ := World.cells?_some hc'
      obtain ⟨e', x, hx, hr⟩ := h3 H enc w n cs' _ ht'
      refine ⟨x, hx, fun j hj => ⟨cs'[j]'(by omega), ?_, fun d hd => hr j _ d (List.getElem?_eq_getElem (by omega)) hd⟩⟩
      have := hat j hj
      rw [← Go.Deep.add_add, this]
      exact List.getElem?_eq_getElem (by omega)
    have hchoice : ∃ xs : List X, xs.length = len ∧ ∀ i, i < len → ok (xs.getD i default) ∧ ∀ j, j < sz → ∃ v, w.cell? (a.add (i * sz + j)) = some v ∧ ∀ d, (cells (xs.getD i default))[j]? = some d → RelD noE w v d := by
      have : ∀ k, k ≤ len → ∃ xs : List X, xs.length = k ∧ ∀ i, i < k → ok (xs.getD i default) ∧ ∀ j, j < sz → ∃ v, w.cell? (a.add (i * sz + j)) = some v ∧ ∀ d, (cells (xs.getD i default))[j]? = some d → RelD noE w v d := by
        intro k
        induction k with
        | zero => exact fun _ => ⟨[], rfl, fun i hi => by omega⟩
        | succ k ih =>
          intro hk
          obtain ⟨xs, hxl, hx⟩ := ih (by omega)
          obtain ⟨x, hxo, hxr⟩ := hall k (by omega)
          refine ⟨xs ++ [x], by simp [hxl], fun i hi => ?_⟩
          by_cases h : i < k
          · have : (xs ++ [x]).getD i default = xs.getD i default := by
              simp only [List.getD_eq_getElem?_getD]
              rw [List.getElem?_append_left (by omega)]
            rw [this]
            exact hx i h
          · have e : i = k := by omega
            subst e
            have : (xs ++ [x]).getD i default = x := by
              simp only [List.getD_eq_getElem?_getD]
              rw [List.getElem?_append_right (by omega), hxl]
              simp
            rw [this]
            exact ⟨hxo, hxr⟩
      exact this len (Nat.le_refl _)
    obtain ⟨xs, hxl, hx⟩ := hchoice
    refine ⟨rfl, xs, ⟨by omega, fun x hx' => ?_⟩, fun j v d hv hd => ?_⟩
    · obtain ⟨i, hi', rfl⟩ := List.getElem_of_mem hx'
      have := (hx i (by omega)).1
      simpa [hi'] using this
    · cases j with
      | succ j => simp at hv
      | zero =>
        simp at hv hd
        subst hv; subst hd
        by_cases hz : m = 0
        · have hl0 : len = 0 := by omega
          have : xs.length = 0 := by omega
          rw [hz, hl0, this]
          exact .nil _ _ _ _
        · obtain ⟨x, _, hr⟩ := hall 0 (by omega)
          obtain ⟨v, hv, _⟩ := hr 0 h0
          obtain ⟨b, off, spot⟩ := a
          have hsp : spot = none := by
            simp only [World.cell?, Addr.add] at hv
            split at hv
            · cases spot with
              | none => rfl
              | some s => simp at hv
            · cases hv
          subst hsp
          rw [← hxl] at hl hx ⊢
          obtain ⟨g, hg⟩ : ∃ g : Nat → Nat → Value, ∀ i j, i < xs.length → j < sz → w.cell? (Addr.add ⟨b, off, none⟩ (i * sz + j)) = some (g i j) ∧ ∀ d, (cells (xs.getD i default))[j]? = some d → RelD noE w (g i j) d := by
            refine ⟨fun i j => (w.cell? (Addr.add ⟨b, off, none⟩ (i * sz + j))).getD undef, fun i j hi hj => ?_⟩
            obtain ⟨v, hv, hr⟩ := (hx i hi).2 j hj
            simp only [hv, Option.getD_some]
            exact ⟨trivial, hr⟩
          exact .sl _ _ _ _ b off m g hl (fun h => by cases h) (fun i _ => h2 _) (fun i j hi hj => ⟨fun h => h, (addr_add b off _) ▸ (hg i j hi hj).1⟩) (fun i j hi hj x hx => (hg i j hi hj).2 x hx)

/-- The fields of a struct, one behind the other. -/
def FR (P : Program) (fs : List Field) (off sz : Nat) {X : Type} (cells : X → List D) (ok : X → Prop) : Prop :=
  (∀ x, (cells x).length = sz) ∧ ∀ (H : Type) (enc : TypeId × Value → H) (w : World) (fuel : Nat) (cs : List Value), off + sz ≤ cs.length →
    (∀ f, f ∈ fs → ∃ y, DataW.trod enc P w 0 (fun _ => true) true fuel f.type ((cs.drop f.offset).take (P.cellsOf f.type)) = some y) →
    ∃ x, ok x ∧ ∀ (j : Nat) (v : Value) (d : D), cs[off + j]? = some v → (cells x)[j]? = some d → RelD noE w v d

theorem FR.nil {P : Program} {off : Nat} : FR P [] off 0 (fun _ : Unit => []) (fun _ => True) :=
  ⟨fun _ => rfl, fun H enc w fuel cs _ _ => ⟨(), trivial, fun j v d _ hd => by simp at hd⟩⟩
theorem FR.cons {P : Program} {f : Field} {fs : List Field} {off s1 s2 : Nat} {X Y : Type} {c1 : X → List D} {c2 : Y → List D} {o1 : X → Prop} {o2 : Y → Prop} (hoff : f.offset = off) (h1 : Reads P f.type s1 c1 o1) (h2 : FR P fs (off + s1) s2 c2 o2) :
    FR P (f :: fs) off (s1 + s2) (fun x : X × Y => c1 x.1 ++ c2 x.2) (fun x => o1 x.1 ∧ o2 x.2) := by
  obtain ⟨a1, a2, a3⟩ := h1
  obtain ⟨b1, b2⟩ := h2
  refine ⟨fun x => by simp [a2, b1], fun H enc w fuel cs hl hf => ?_⟩
  obtain ⟨y, hy⟩ := hf f (by simp)
  rw [hoff, a1] at hy
  obtain ⟨e, x, hx, hr⟩ := a3 H enc w fuel _ y hy
  obtain ⟨x2, hx2, hr2⟩ := b2 H enc w fuel cs (by omega) (fun g hg => hf g (by simp [hg]))
  refine ⟨(x, x2), ⟨hx, hx2⟩, fun j v d hv hd => ?_⟩
  by_cases hj : j < s1
  · rw [List.getElem?_append_left (by rw [a2]; exact hj)] at hd
    exact hr j v d (by rw [List.getElem?_take, if_pos hj, List.getElem?_drop]; exact hv) hd
  · rw [List.getElem?_append_right (by rw [a2]; omega), a2] at hd
    exact hr2 (j - s1) v d (by rw [show off + s1 + (j - s1) = off + j by omega]; exact hv) hd

theorem Reads.struct {P : Program} {t : TypeId} {fs : Array Field} {sz : Nat} {X : Type} {cells : X → List D} {ok : X → Prop} (ht : P.underlying t = some (.struct fs)) (h : FR P fs.toList 0 sz cells ok) (hc : P.cellsOf t = sz) : Reads P t sz cells ok := by
  obtain ⟨h1, h2⟩ := h
  refine ⟨hc, h1, fun H enc w fuel cs y hy => ?_⟩
  obtain ⟨xs, n, _, _, hl, hxl, hf⟩ := DataW.trod_struct ht hy
  refine ⟨hl.trans hc, ?_⟩
  obtain ⟨x, hx, hr⟩ := h2 H enc w n cs (by omega) (fun f hfm => by
    obtain ⟨i, hi, e⟩ := List.getElem_of_mem hfm
    have hi' : i < fs.size := by simpa using hi
    have h3 := hf i f (by rw [Array.getElem?_eq_getElem hi']; simp at e; rw [e])
    have hix : i < xs.length := by omega
    rw [List.getElem?_eq_getElem hix] at h3
    exact ⟨_, h3⟩)
  exact ⟨x, hx, fun j v d hv hd => hr j v d (by rw [Nat.zero_add]; exact hv) hd⟩

/-- The items of an array. -/
theorem Reads.array {P : Program} {t e : TypeId} {n sz : Nat} {X : Type} [Inhabited X] {cells : X → List D} {ok : X → Prop} (h : Reads P e sz cells ok) (ht : P.underlying t = some (.array n e)) (hc : P.cellsOf t = n * sz) :
    Reads P t (n * sz) (fun g : Nat → X => (List.range n).flatMap fun i => cells (g i)) (fun g => ∀ i, i < n → ok (g i)) := by
  obtain ⟨h1, h2, h3⟩ := h
  have hlen : ∀ (g : Nat → X) (m : Nat), ((List.range m).flatMap fun i => cells (g i)).length = m * sz := fun g m => by
    induction m with
    | zero => simp
    | succ m ih => rw [List.range_succ, List.flatMap_append, List.length_append, ih]; simp [h2, Nat.add_mul]
  refine ⟨hc, fun g => hlen g n, fun H enc w fuel cs y hy => ?_⟩
  obtain ⟨xs, m, _, _, hl, hxl, hf⟩ := DataW.trod_array ht hy
  refine ⟨hl.trans hc, ?_⟩
  have hall : ∀ i, ∃ x, i < n → ok x ∧ ∀ (j : Nat) (v : Value) (d : D), cs[i * sz + j]? = some v → j < sz → (cells x)[j]? = some d → RelD noE w v d := fun i => by
    by_cases hi : i < n
    · have h4 := hf i hi
      rw [List.getElem?_eq_getElem (by omega), h1] at h4
      obtain ⟨e', x, hx, hr⟩ := h3 H enc w m _ _ h4
      exact ⟨x, fun _ => ⟨hx, fun j v d hv hj hd => hr j v d (by rw [List.getElem?_take, if_pos hj, List.getElem?_drop]; exact hv) hd⟩⟩
    · exact ⟨default, fun h => absurd h hi⟩
  obtain ⟨g, hg⟩ := Classical.axiomOfChoice hall
  refine ⟨g, fun i hi => (hg i hi).1, ?_⟩
  have : ∀ m, m ≤ n → ∀ (j : Nat) (v : Value) (d : D), cs[j]? = some v → ((List.range m).flatMap fun i => cells (g i))[j]? = some d → RelD noE w v d := by
    intro m
    induction m with
    | zero => intro _ j v d _ hd; simp at hd
    | succ m ih =>
      intro hm j v d hv hd
      rw [List.range_succ, List.flatMap_append] at hd
      by_cases hj : j < m * sz
      · rw [List.getElem?_append_left (by rw [hlen]; exact hj)] at hd
        exact ih (by omega) j v d hv hd
      · rw [List.getElem?_append_right (by rw [hlen]; omega), hlen] at hd
        simp only [List.flatMap_cons, List.flatMap_nil, List.append_nil] at hd
        have hjl : j - m * sz < sz := by have := (List.getElem?_eq_some_iff.1 hd).1; rw [h2] at this; exact this
        exact (hg m (by omega)).2 (j - m * sz) v d (by rw [show m * sz + (j - m * sz) = j by omega]; exact hv) hjl hd
  exact this n (Nat.le_refl n)

section
variable {H : Type} {enc : TypeId × Value → H} {P : Program} {W : World}
/-- An argument that is a struct or an array. -/
theorem Reads.agg {t : TypeId} {sz base : Nat} {X : Type} {cells : X → List D} {ok : X → Prop} {v : Value} {d : DataW H} {ps : List MemPlace} (h : Reads P t sz cells ok) (hag : aggB P t = some true) (hval : Value.okWide P W .any base t v)
    (hd : DataW.Trod enc P W 0 (fun _ => true) true t v d ps) : ∃ x, ok x ∧ RelV noN noE W v (.ag ((cells x).map .d)) := by
  obtain ⟨fuel, hf⟩ := hd
  obtain ⟨h1, h2, h3⟩ := h
  obtain ⟨e, x, hx, hr⟩ := h3 H enc W fuel _ _ hf
  have hform : ∃ cs, v = .agg cs := by
    unfold aggB at hag
    unfold Value.okWide at hval
    cases hu : P.underlying t with
    | none => simp [hu] at hag
    | some q => cases q <;> simp [hu] at hag <;> simp only [hu] at hval <;> obtain ⟨cs, h, _⟩ := hval <;> exact ⟨cs, h⟩
  obtain ⟨cs, rfl⟩ := hform
  have hcells : (Value.agg cs).cells = cs := rfl
  rw [hcells] at e hr
  refine ⟨x, hx, .ag _ _ (by simpa [h2] using e) fun j u y hu hy => ?_⟩
  rw [List.getElem?_map] at hy
  obtain ⟨z, hz, rfl⟩ := Option.map_eq_some_iff.1 hy
  exact .d _ _ (hr j u z (by simpa using hu) hz)

/-- An argument of one cell. -/
theorem Reads.cell {t : TypeId} {base : Nat} {X : Type} {cell : X → D} {ok : X → Prop} {v : Value} {d : DataW H} {ps : List MemPlace} (h : Reads P t 1 (fun x => [cell x]) ok) (hag : aggB P t = some false) (hval : Value.okWide P W .any base t v)
    (hd : DataW.Trod enc P W 0 (fun _ => true) true t v d ps) : ∃ x, ok x ∧ RelV noN noE W v (.d (cell x)) := by
  obtain ⟨fuel, hf⟩ := hd
  obtain ⟨h1, h2, h3⟩ := h
  obtain ⟨e, x, hx, hr⟩ := h3 H enc W fuel _ _ hf
  have hform : v.cells = #[v] := by
    unfold aggB at hag
    unfold Value.okWide at hval
    cases hu : P.underlying t with
    | none => simp [hu] at hag
    | some q =>
      cases v <;> first
        | rfl
        | (cases q <;> simp [hu] at hag <;> simp [hu, Cell.okWide, Cell.ok] at hval)
  rw [hform] at hr
  exact ⟨x, hx, .d _ _ (hr 0 v (cell x) rfl rfl)⟩
end

theorem trodAll_stays {H : Type} {enc : TypeId × Value → H} {P : Program} {W W' : World} (hl : laidOutB P = true) (hb : Below W.heap.size W W') {sp : Nat → Bool} : ∀ {ts : List TypeId} {vs : List Value} {ds : List (DataW H)} {ps : List MemPlace},
    (ts.all fun t => P.readableRec t && decide (t < P.types.size)) = true → (∀ p, p ∈ ps → p.block < W.heap.size) → (∀ p, p ∈ ps → sp p.block = true) → DataW.TrodAll enc P W 0 (fun _ => true) true ts vs ds ps → DataW.TrodAll enc P W' 0 sp true ts vs ds ps
  | [], [], [], ps, _, _, _, h => h
  | t :: ts, v :: vs, d :: ds, ps, hts, hlt, hsp, h => by
    obtain ⟨p, q, h1, h2, rfl⟩ := h
    simp only [List.all_cons, Bool.and_eq_true, decide_eq_true_eq] at hts
    exact ⟨p, q, WideElems.Trod_stays hl hts.1.1 hts.1.2 h1 (fun x hx => hb.same (hlt x (List.mem_append_left _ hx))) (fun x hx => hsp x (List.mem_append_left _ hx)),
      trodAll_stays hl hb hts.2 (fun x hx => hlt x (List.mem_append_right _ hx)) (fun x hx => hsp x (List.mem_append_right _ hx)) h2, rfl⟩
  | [], _ :: _, _, _, _, _, _, h => by simp [DataW.TrodAll] at h
  | [], [], _ :: _, _, _, _, _, h => by simp [DataW.TrodAll] at h
  | _ :: _, [], _, _, _, _, _, h => by simp [DataW.TrodAll] at h
  | _ :: _, _ :: _, [], _, _, _, _, h => by simp [DataW.TrodAll] at h

theorem trodAll_len {H : Type} {enc : TypeId × Value → H} {P : Program} {W : World} {base : Nat} {sp : Nat → Bool} {hd : Bool} : ∀ {ts : List TypeId} {vs : List Value} {ds : List (DataW H)} {ps : List MemPlace}, DataW.TrodAll enc P W base sp hd ts vs ds ps → vs.length = ts.length ∧ ds.length = ts.length
  | [], [], [], _, _ => ⟨rfl, rfl⟩
  | t :: ts, v :: vs, d :: ds, ps, h => by
    obtain ⟨p, q, _, h2, _⟩ := h
    obtain ⟨e1, e2⟩ := trodAll_len h2
    exact ⟨by simp [e1], by simp [e2]⟩
  | [], _ :: _, _, _, h => by simp [DataW.TrodAll] at h
  | [], [], _ :: _, _, h => by simp [DataW.TrodAll] at h
  | _ :: _, [], _, _, h => by simp [DataW.TrodAll] at h
  | _ :: _, _ :: _, [], _, h => by simp [DataW.TrodAll] at h

/-- What the arguments read as, all of them. -/
def ReadsAll {H : Type} (enc : TypeId × Value → H) (P : Program) (f : FuncId) (fn : Func) : Prop :=
  ∀ (W : World) (base : Nat) (args : Array Value) (ds : List (DataW H)) (p : List MemPlace), (∀ (j : Nat) t v, fn.params[j]? = some t → args[j]? = some v → Value.okWide P W .any base t v) →
    DataW.TrodAll enc P W 0 (fun _ => true) true fn.params.toList args.toList ds p →
    ∃ vs : List V, vs.length = args.size ∧ (∀ (j : Nat) (v : Value) (x : V), args[j]? = some v → vs[j]? = some x → RelV noN noE W v x) ∧ Ctr P f vs [] (.d (.bool true)) [] []

/-- **A law's contract becomes the row's contract.** -/
theorem law_calls {H : Type} {enc : TypeId × Value → H} {P : Program} {f : FuncId} {fn : Func} {s : ChangeSpec} {fresh handsOn again : Bool} (hl : laidOutB P = true) (hts : (fn.params.toList.all fun t => P.readableRec t && decide (t < P.types.size)) = true)
    {tb : TypeId} (hres : fn.resultTypes.toList = [tb]) (htb : P.underlying tb = some .bool) (hvars : s.vars = []) (hsp : ∀ ds : List (DataW H), ds.length = fn.params.size → s.fn H ds = { results := [.lit (.bool true)], args := ds })
    (hr : ReadsAll enc P f fn) (W : World) (base : Nat) (args : Array Value) (ds gs : List (DataW H)) (before : List MemPlace)
    (hval : ∀ (j : Nat) t v, fn.params[j]? = some t → args[j]? = some v → Value.okWide P W .any base t v)
    (hW : DataW.Whole enc P fn.params.toList s.vars false W args.toList ds gs before) :
    Calls P f args W fun e W' => ∃ v, e = .returned v ∧ s.post enc P fn false fresh handsOn again W args v W' := by
  have hW' := hW
  obtain ⟨p, q, hA, hV, rfl, hfz, hnd⟩ := hW
  rw [hvars] at hV
  obtain ⟨rfl, rfl⟩ := trodVars_none hV
  obtain ⟨vs, hvl, hvr, hctr⟩ := hr W base args ds p hval hA
  obtain ⟨_, _, _, hc⟩ := hctr
  refine (hc noE noN W args (fun b h => h.elim) hvl.symm (fun j v x hv hx => (hvr j v x hv hx).lasts' (E' := Eo noE noN []) (fun b _ h => ⟨?_, rfl⟩) (Names.le.refl _)) ⟨fun k o h => by simp at h, by simp [keysO], fun k k' h => by simp [keysO] at h, fun k h => by simp [keysO] at h⟩ (fun k h => by simp at h)).mono ?_
  · rintro (h | ⟨k, h1, _⟩)
    · exact h
    · simp [keysO] at h1
  rintro e W' ⟨v, β', rfl, _, _, hv, _, hk, _⟩
  have hv := rel_bool hv
  subst hv
  have hb : Below W.heap.size W W' := ⟨hk.os, hk.tape, hk.output, hk.size, fun k hk' => hk.block k hk' (fun ⟨k', h1, _⟩ => by simp [keysO] at h1)⟩
  obtain ⟨hl1, hl2⟩ := trodAll_len hA
  have hsf := hsp ds (by simpa using hl2)
  have hrs : fn.resultTypes.size = 1 := by have := congrArg List.length hres; simpa using this
  have hlt : ∀ x, x ∈ p → x.block < W.heap.size := fun x hx => hW'.lt x (by simpa using hx)
  -- the arguments read as they did, whatever is read beyond their lengths
  have harg : ∀ sp : Nat → Bool, (∀ x, x ∈ p → sp x.block = true) → DataW.TrodAll enc P W' 0 sp true fn.params.toList args.toList (s.fn H (ds ++ [])).args p := fun sp hs => by
    rw [List.append_nil, hsf]
    exact trodAll_stays hl hb hts hlt hs hA
  have hvar : ∀ sp : Nat → Bool, DataW.TrodVars enc P W' sp s.vars (s.fn H (ds ++ [])).vars [] := fun sp => by
    rw [List.append_nil, hsf, hvars]
    rfl
  have hrd : ∀ (bb : Nat) (sp : Nat → Bool) (hd : Bool), DataW.TrodAll enc P W' bb sp hd fn.resultTypes.toList ((Value.bool true).resultList fn.resultTypes.size) (s.fn H (ds ++ [])).results [] := fun bb sp hd => by
    rw [List.append_nil, hsf, hres, hrs]
    exact trodAll_mk1 ⟨1, by simp [DataW.trod, htb, Value.cells]⟩
  have hin : ∀ x, x ∈ p → decide (x.block < W.heap.size) = true := fun x hx => by simpa using hlt x hx
  have hwa := trodAll_append (harg (fun _ => true) (fun _ _ => rfl)) (hrd 0 (fun _ => true) true)
  refine ⟨_, rfl, ds, [], p ++ [], [], p, [], hW', hrd _ _ _, harg _ hin, hvar _, World.keptBut_mono (fun x hx => ⟨hx, .inr (by simpa using hx)⟩) (hb.frame (· ∈ p ++ [])), fun _ => ⟨fun j t r ht hr' => ?_, _, _, ([] ++ p) ++ [], ⟨[] ++ p, [], hwa, hvar _, rfl, fun bk off hx => ?_, fun h => by cases h⟩, fun x hx _ => ?_⟩⟩
  · have ht' : fn.resultTypes.toList[j]? = some t := by simpa using ht
    rw [hres] at ht'
    rw [hrs] at hr'
    cases j with
    | succ j => simp at ht'
    | zero =>
      simp [Value.resultList] at ht' hr'
      subst ht'; subst hr'
      simp [Value.okWide, htb, Cell.okWide, Cell.ok]
  · rw [hb.frozen (hlt _ (by simpa using hx))]
    exact hfz bk off hx
  · simpa using hx

section
theorem trodAll_five {H : Type} {enc : TypeId × Value → H} {P : Program} {base : Nat} {spare : Nat → Bool} {held : Bool} {w : World} {t0 t1 t2 t3 t4 : TypeId} {args : Array Value} {ds : List (DataW H)} {ps : List MemPlace} (h : DataW.TrodAll enc P w base spare held [t0, t1, t2, t3, t4] args.toList ds ps) :
    ∃ v0 v1 v2 v3 v4 d0 d1 d2 d3 d4 p0 p1 p2 p3 p4, args = #[v0, v1, v2, v3, v4] ∧ ds = [d0, d1, d2, d3, d4] ∧ ps = p0 ++ (p1 ++ (p2 ++ (p3 ++ p4))) ∧
      DataW.Trod enc P w base spare held t0 v0 d0 p0 ∧ DataW.Trod enc P w base spare held t1 v1 d1 p1 ∧ DataW.Trod enc P w base spare held t2 v2 d2 p2 ∧ DataW.Trod enc P w base spare held t3 v3 d3 p3 ∧ DataW.Trod enc P w base spare held t4 v4 d4 p4 := by
  have ⟨v0, r0, d0, e0, p0, q0, a0, b0, c0, h0, k0⟩ := trodAll_cons h
  have ⟨v1, r1, d1, e1, p1, q1, a1, b1, c1, h1, k1⟩ := trodAll_cons k0
  have ⟨v2, r2, d2, e2, p2, q2, a2, b2, c2, h2, k2⟩ := trodAll_cons k1
  have ⟨v3, r3, d3, e3, p3, q3, a3, b3, c3, h3, k3⟩ := trodAll_cons k2
  have ⟨v4, r4, d4, e4, p4, q4, a4, b4, c4, h4, k4⟩ := trodAll_cons k3
  have ⟨x0, x1, x2⟩ := trodAll_nil k4
  subst x0 x1 x2 b4 c4 a4 b3 c3 a3 b2 c2 a2 b1 c1 a1 b0 c0
  refine ⟨v0, v1, v2, v3, v4, d0, d1, d2, d3, d4, p0, p1, p2, p3, p4, ?_, rfl, by simp, h0, h1, h2, h3, h4⟩
  cases args
  simp at a0
  simp [a0]
variable {W : World}
theorem rel1 {v0 : Value} {x0 : V} (h0 : RelV noN noE W v0 x0) : ∀ (j : Nat) (v : Value) (x : V), (#[v0] : Array Value)[j]? = some v → [x0][j]? = some x → RelV noN noE W v x := fun j v x hv hx => by
  match j, hv, hx with
  | 0, hv, hx => simp at hv hx; subst hv; subst hx; exact h0
  | j + 1, hv, hx => simp at hx
theorem rel2 {v0 v1 : Value} {x0 x1 : V} (h0 : RelV noN noE W v0 x0) (h1 : RelV noN noE W v1 x1) : ∀ (j : Nat) (v : Value) (x : V), (#[v0, v1] : Array Value)[j]? = some v → [x0, x1][j]? = some x → RelV noN noE W v x := fun j v x hv hx => by
  match j, hv, hx with
  | 0, hv, hx => simp at hv hx; subst hv; subst hx; exact h0
  | 1, hv, hx => simp at hv hx; subst hv; subst hx; exact h1
  | j + 2, hv, hx => simp at hx
theorem rel3 {v0 v1 v2 : Value} {x0 x1 x2 : V} (h0 : RelV noN noE W v0 x0) (h1 : RelV noN noE W v1 x1) (h2 : RelV noN noE W v2 x2) : ∀ (j : Nat) (v : Value) (x : V), (#[v0, v1, v2] : Array Value)[j]? = some v → [x0, x1, x2][j]? = some x → RelV noN noE W v x := fun j v x hv hx => by
  match j, hv, hx with
  | 0, hv, hx => simp at hv hx; subst hv; subst hx; exact h0
  | 1, hv, hx => simp at hv hx; subst hv; subst hx; exact h1
  | 2, hv, hx => simp at hv hx; subst hv; subst hx; exact h2
  | j + 3, hv, hx => simp at hx
theorem rel4 {v0 v1 v2 v3 : Value} {x0 x1 x2 x3 : V} (h0 : RelV noN noE W v0 x0) (h1 : RelV noN noE W v1 x1) (h2 : RelV noN noE W v2 x2) (h3 : RelV noN noE W v3 x3) : ∀ (j : Nat) (v : Value) (x : V), (#[v0, v1, v2, v3] : Array Value)[j]? = some v → [x0, x1, x2, x3][j]? = some x → RelV noN noE W v x := fun j v x hv hx => by
  match j, hv, hx with
  | 0, hv, hx => simp at hv hx; subst hv; subst hx; exact h0
  | 1, hv, hx => simp at hv hx; subst hv; subst hx; exact h1
  | 2, hv, hx => simp at hv hx; subst hv; subst hx; exact h2
  | 3, hv, hx => simp at hv hx; subst hv; subst hx; exact h3
  | j + 4, hv, hx => simp at hx
end

theorem rel5 {W : World} {v0 v1 v2 v3 v4 : Value} {x0 x1 x2 x3 x4 : V} (h0 : RelV noN noE W v0 x0) (h1 : RelV noN noE W v1 x1) (h2 : RelV noN noE W v2 x2) (h3 : RelV noN noE W v3 x3) (h4 : RelV noN noE W v4 x4) : ∀ (j : Nat) (v : Value) (x : V), (#[v0, v1, v2, v3, v4] : Array Value)[j]? = some v → [x0, x1, x2, x3, x4][j]? = some x → RelV noN noE W v x := by
  intro j v x hv hx
  match j, hv, hx with
  | 0, hv, hx => simp at hv hx; subst hv; subst hx; exact h0
  | 1, hv, hx => simp at hv hx; subst hv; subst hx; exact h1
  | 2, hv, hx => simp at hv hx; subst hv; subst hx; exact h2
  | 3, hv, hx => simp at hv hx; subst hv; subst hx; exact h3
  | 4, hv, hx => simp at hv hx; subst hv; subst hx; exact h4
  | n + 5, hv, hx => simp at hv
end Go.Bx
