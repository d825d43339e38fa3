/-
  The engine, part 12: structs and arrays that are built; the operations, compiled; each compiled operation does what the model's does.
-/
import Derived.Test.YthkfedghiklmeaaEng11
namespace Go.Bx
open Go.RowKit

section
variable {c : Ctx} {β : Names} {st : St} {a : Act} {w : World} {o : Oper} {d : Nat}

theorem fill_rel {E : Nat → Prop} {place : Nat → Option (Nat × Nat)} : ∀ (ps : List (Nat × Value)) (vs : List (Nat × Nat × V)) (arr : Array Value) (cs cs' : List V),
    ps.length = vs.length → (∀ (j : Nat) (p : Nat × Value) (q : Nat × Nat × V), ps[j]? = some p → vs[j]? = some q → place p.1 = some (q.1, q.2.1) ∧ RelV β E w p.2 q.2.2) →
    arr.size = cs.length → (∀ (j : Nat) (v : Value) (x : V), arr[j]? = some v → cs[j]? = some x → RelV β E w v x) → fillV cs vs = some cs' →
    ∃ arr', Instr.fill place arr ps = some arr' ∧ arr'.size = cs'.length ∧ ∀ (j : Nat) (v : Value) (x : V), arr'[j]? = some v → cs'[j]? = some x → RelV β E w v x
  | [], vs, arr, cs, cs', hl, _, hz, hr, hf => by
    have : vs = [] := List.eq_nil_of_length_eq_zero (by simpa using hl.symm)
    subst this
    simp [fillV] at hf
    subst hf
    exact ⟨arr, by simp [Instr.fill], hz, hr⟩
  | p :: ps, vs, arr, cs, cs', hl, hp, hz, hr, hf => by
    cases vs with
    | nil => simp at hl
    | cons q vs =>
      obtain ⟨off, sz, v⟩ := q
      obtain ⟨i, u⟩ := p
      obtain ⟨h1, h2⟩ := hp 0 _ _ rfl rfl
      simp only at h1 h2
      simp only [fillV] at hf
      split at hf
      · rename_i ys hys
        split at hf
        · rename_i hc
          simp at hc
          obtain ⟨g1, g2, _⟩ := h2.cells hys
          have hsz : (u.cells.toList.zipIdx.foldl (fun cs (p : Value × Nat) => cs.setIfInBounds (off + p.2) p.1) arr).size = arr.size := zipIdx_fold_size off _ _
          obtain ⟨arr', k1, k2, k3⟩ := fill_rel ps vs (u.cells.toList.zipIdx.foldl (fun cs (p : Value × Nat) => cs.setIfInBounds (off + p.2) p.1) arr) (putV cs off ys) cs' (by simpa using hl)
            (fun j p q hj hq => hp (j + 1) p q (by simpa using hj) (by simpa using hq)) (by rw [hsz, putV_len, hz]) (fun j v x hv hx => by
              have := zipIdx_fold off u.cells.toList 0 arr j
              rw [this] at hv
              rw [putV_get] at hx
              simp only [Nat.add_zero, Array.length_toList, g1] at hv
              by_cases hj : off ≤ j ∧ j < off + ys.length
              · rw [if_pos (by omega)] at hv
                rw [if_pos (by omega)] at hx
                exact g2 _ v x (by simpa using hv) hx
              · rw [if_neg (by omega)] at hv
                rw [if_neg (by omega)] at hx
                exact hr j v x hv hx) hf
          refine ⟨arr', ?_, k2, k3⟩
          simp only [Instr.fill, h1]
          rw [if_neg (by simp [g1]; omega), ← Array.foldl_toList]
          simp only [Array.toList_zipIdx]
          exact k1
        · cases hf
      · cases hf

/-- The places of a struct's fields. -/
def placesB (P : Program) (fs : List Field) : Option (List (Nat × Nat)) :=
  match fs with
  | [] => some []
  | f :: l =>
    match szB P f.type, placesB P l with
    | some s, some r => some ((f.offset, s) :: r)
    | _, _ => none

theorem placesB_run {P : Program} {w : World} : ∀ {fs : List Field} {ps : List (Nat × Nat)}, placesB P fs = some ps →
    (fs.mapM fun (f : Field) => do pure (f.offset, ← sizeOf f.type) : Sem (List (Nat × Nat))).run P w = .ok ps w
  | [], ps, h => by simp [placesB] at h; subst h; simp
  | f :: l, ps, h => by
    simp only [placesB] at h
    split at h
    · rename_i s r h1 h2
      simp at h; subst h
      obtain ⟨i, hi, hi2⟩ := Option.map_eq_some_iff.1 h1
      have := placesB_run (w := w) h2
      simp [List.mapM_cons, sizeOf, typeInfo, hi, hi2] at this ⊢
      rw [this]
      simp
    · cases h

theorem evParts_len : ∀ (l : List (Nat × Nat × X)), (evParts st l).length = l.length
  | [] => rfl
  | (_, _, _) :: l => by simp [evParts, evParts_len l]
theorem evParts_get : ∀ {l : List (Nat × Nat × X)} {j : Nat} {q : Nat × Nat × X}, l[j]? = some q → (evParts st l)[j]? = some (q.1, q.2.1, evV st q.2.2)
  | [], j, q, h => by simp at h
  | (x, y, z) :: l, 0, q, h => by simp at h; subst h; simp [evParts]
  | (x, y, z) :: l, j + 1, q, h => by simp at h; simp [evParts, evParts_get h]
theorem evPartsS_get {p : Bool} : ∀ {l : List (Nat × Nat × X)} {j : Nat} {q : Nat × Nat × X}, evPartsS p st l → l[j]? = some q → evS p st q.2.2
  | [], j, q, _, h => by simp at h
  | (x, y, z) :: l, 0, q, hs, h => by simp at h; subst h; exact hs.1
  | (x, y, z) :: l, j + 1, q, hs, h => by simp at h; exact evPartsS_get hs.2 h

/-- Operands of parts, compiled, with their places. -/
def cParts (place : Nat → Option (Nat × Nat)) : List (Nat × Operand) → Option (List (Nat × Nat × X))
  | [] => some []
  | (i, o) :: l =>
    match place i, cX o, cParts place l with
    | some (off, sz), some x, some r => some ((off, sz, x) :: r)
    | _, _, _ => none

theorem cParts_ok {place : Nat → Option (Nat × Nat)} : ∀ {l : List (Nat × Operand)} {ps : List (Nat × Nat × X)}, cParts place l = some ps →
    l.length = ps.length ∧ ∀ (j : Nat) (p : Nat × Operand) (q : Nat × Nat × X), l[j]? = some p → ps[j]? = some q → place p.1 = some (q.1, q.2.1) ∧ cX p.2 = some q.2.2
  | [], ps, h => by simp [cParts] at h; subst h; simp
  | (i, o) :: l, ps, h => by
    simp only [cParts] at h
    split at h
    · rename_i off sz x r h1 h2 h3
      simp at h; subst h
      obtain ⟨e, hr⟩ := cParts_ok h3
      refine ⟨by simp [e], fun j p q hp hq => ?_⟩
      cases j with
      | zero => simp at hp hq; subst hp; subst hq; exact ⟨h1, h2⟩
      | succ j => simp at hp hq; exact hr j p q hp hq
    · cases h

theorem s_build (H : Holds c β st a w) (hd : ∀ d, o.dst = some d → d < c.nt) {t : TypeId} {ps : Array (Nat × Operand)} {z : List V} {parts : List (Nat × Nat × X)} {place : Nat → Option (Nat × Nat)} (ho : o.op = .build t ps) (hz : zeroB c.P t = some z) (hp : cParts place ps.toList = some parts)
    (hrun : ∀ (zc : Array Value) (vs : Array (Nat × Value)) (out : Array Value), (zeroValue t).run c.P w = .ok (.agg zc) w → Instr.fill place zc vs.toList = some out → (Instr.build t vs).run c.P w = .ok (.agg out) w)
    (hagz : ∀ i zv, c.P.info? t = some i → i.zero = some zv → ∃ zc, zv = .agg zc)
    (hs : (opR st true d (.build z parts)).side) : Runs c β (st.app o.dst (opR st true d (.build z parts))) a o w := by
  simp only [opR] at hs ⊢
  split at hs
  · rename_i cs h1
    obtain ⟨i, hi, zv, hzz, hcs⟩ : ∃ i, c.P.info? t = some i ∧ ∃ zv, i.zero = some zv ∧ cVs zv.cells.toList = some z := by
      unfold zeroB at hz
      cases hi : c.P.info? t with
      | none => simp [hi] at hz
      | some i =>
        simp only [hi, Option.bind_some] at hz
        cases hzz : i.zero with
        | none => simp [hzz] at hz
        | some zv => simp only [hzz] at hz; exact ⟨i, rfl, zv, hzz, hz⟩
    obtain ⟨zc, rfl⟩ := hagz i zv hi hzz
    obtain ⟨e1, hr⟩ := cVs_cells (β := β) (E := Eo c.E0 β st.own) (w := w) (arr := zc) hcs
    obtain ⟨e2, hpr⟩ := cParts_ok hp
    obtain ⟨out, k1, k2, k3⟩ := fill_rel (β := β) (w := w) (E := Eo c.E0 β st.own) (place := place) (ps.toList.map fun (p : Nat × Operand) => (p.1, a.eval p.2)) (evParts st parts) zc z cs (by simp [evParts_len, ← e2])
      (fun j p q hj hq => by
        rw [List.getElem?_map] at hj
        obtain ⟨p0, hp0, rfl⟩ := Option.map_eq_some_iff.1 hj
        have hjl : j < parts.length := by
          have := (List.getElem?_eq_some_iff.1 hp0).1
          omega
        have hq0 : parts[j]? = some parts[j] := List.getElem?_eq_getElem hjl
        rw [evParts_get hq0] at hq
        simp at hq
        subst hq
        obtain ⟨g1, g2⟩ := hpr j p0 _ hp0 hq0
        exact ⟨g1, evV_ok H g2 (evPartsS_get hs hq0)⟩) e1 hr h1
    refine Runs.val H hd (v := .agg out) ?_ (.ag _ _ k2 k3)
    have hzr : (zeroValue t).run c.P w = .ok (.agg zc) w := by simp [zeroValue, typeInfo, hi, hzz]
    have := hrun zc (ps.map fun (p : Nat × Operand) => (p.1, a.eval p.2)) out hzr (by simpa using k1)
    exact exec_val (s := Instr.build t (ps.map fun (p : Nat × Operand) => (p.1, a.eval p.2))) (by simp [execOp, ho]) this
  · exact hs.elim

theorem build_struct {t : TypeId} {fs : Array Field} {pl : List (Nat × Nat)} (ht : c.P.underlying t = some (.struct fs)) (hp : placesB c.P fs.toList = some pl) :
    ∀ (zc : Array Value) (vs : Array (Nat × Value)) (out : Array Value), (zeroValue t).run c.P w = .ok (.agg zc) w → Instr.fill (fun (i : Nat) => pl[i]?) zc vs.toList = some out → (Instr.build t vs).run c.P w = .ok (.agg out) w := by
  intro zc vs out h1 h2
  have h3 := placesB_run (w := w) hp
  have h4 : (fs.mapM fun (f : Field) => do pure (f.offset, ← sizeOf f.type) : Sem (Array (Nat × Nat))).run c.P w = .ok pl.toArray w := by
    rw [Array.mapM_eq_mapM_toList]
    simp only [Sem.run_map, h3, Result.andThen_ok]
  simp only [Instr.build, Sem.run_bind, h1, Result.andThen_ok, run_underlying ht, h4, Value.cells]
  have h5 : (fun (x : Nat) => pl.toArray[x]?) = fun (i : Nat) => pl[i]? := by funext i; simp
  rw [h5, h2]
  rfl

theorem build_array {t e : TypeId} {n sz : Nat} (ht : c.P.underlying t = some (.array n e)) (hz : szB c.P e = some sz) :
    ∀ (zc : Array Value) (vs : Array (Nat × Value)) (out : Array Value), (zeroValue t).run c.P w = .ok (.agg zc) w → Instr.fill (fun i => some (i * sz, sz)) zc vs.toList = some out → (Instr.build t vs).run c.P w = .ok (.agg out) w := by
  intro zc vs out h1 h2
  obtain ⟨i, hi, hi2⟩ := Option.map_eq_some_iff.1 hz
  have hszr : (sizeOf e).run c.P w = .ok sz w := by simp [sizeOf, typeInfo, hi, hi2]
  simp only [Instr.build, Sem.run_bind, h1, Result.andThen_ok, run_underlying ht, hszr, Value.cells, h2]
  rfl

end
end Go.Bx
