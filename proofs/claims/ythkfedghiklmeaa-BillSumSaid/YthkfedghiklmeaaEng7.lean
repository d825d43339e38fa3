/-
  The engine, part 7: operations that read memory, and addresses.
-/
import Derived.Test.YthkfedghiklmeaaEngE
namespace Go.Bx
open Go.RowKit

theorem getD_of {l : List Value} {j : Nat} {v : Value} (h : l[j]? = some v) : l.getD j undef = v := by simp [h]

theorem addr_add (b off n : Nat) : (⟨b, off, none⟩ : Addr).add n = ⟨b, off + n, none⟩ := by
  unfold Addr.add; split
  · rename_i h; subst h; rfl
  · rfl

/-- Cells that lie one behind the other are loaded. -/
theorem run_loadAt {P : Program} {w : World} {t : TypeId} {sz : Nat} {agg : Bool} (hsz : szB P t = some sz) (hag : aggB P t = some agg) (h1z : agg = false → sz = 1) {b off : Nat} {g : Nat → Value}
    (hc : ∀ j, j < sz → w.cell? ⟨b, off + j, none⟩ = some (g j)) :
    (Instr.loadAt t (.pointer (some ⟨b, off, none⟩))).run P w = .ok (if agg then .agg ((List.range sz).map g).toArray else g 0) w := by
  obtain ⟨i, hi, hi2⟩ := Option.map_eq_some_iff.1 hsz
  cases agg with
  | true =>
    have hl := run_loadCells (P := P) w ⟨b, off, none⟩ sz g (fun j hj => by rw [addr_add]; exact hc j hj)
    simp [Instr.loadAt, Instr.sureAddr, loadVar, run_isAgg hag w, sizeOf, typeInfo, hi, hi2, hl]
  | false =>
    have h1 := h1z rfl
    subst h1
    have h0 := hc 0 (by omega)
    simp only [Nat.add_zero] at h0
    simp [Instr.loadAt, Instr.sureAddr, loadVar, run_isAgg hag w, h0]

section
variable {c : Ctx} {β : Names} {st : St} {a : Act} {w : World} {o : Oper} {d : Nat}

theorem own_ok (H : Holds c β st a w) {k : Nat} {ow : Own} (h : own? st.own k = some ow) : OwnOk β (Eo c.E0 β st.own) w k ow := H.own.ok k ow (own?_mem h)

theorem s_load (H : Holds c β st a w) (hd : ∀ d, o.dst = some d → d < c.nt) {sz : Nat} {agg : Bool} {t : TypeId} {ox : Operand} {x : X} (ho : o.op = .load t ox)
    (hsz : szB c.P t = some sz) (hag : aggB c.P t = some agg) (h1z : agg = false → sz = 1) (hx : cX ox = some x)
    (hs : (opR st true d (.load sz agg x)).side) : Runs c β (st.app o.dst (opR st true d (.load sz agg x))) a o w := by
  simp only [opR] at hs ⊢
  split at hs
  · -- immutable memory
    rename_i cs h1
    obtain ⟨hs, hlt⟩ := hs
    have e1 := evV_ok H hx hs
    rw [h1] at e1
    generalize hu : a.eval ox = u at *
    cases e1 with
    | mem _ b off g hcell hrel =>
      refine Runs.val H hd (exec_val (s := Instr.loadAt t (a.eval ox)) (by simp [execOp, ho]) (by rw [hu]; exact run_loadAt hsz hag h1z (fun j hj => (hcell j (by omega)).2))) ?_
      cases agg with
      | true =>
        simp only [cutD, if_true]
        rw [takeDV_eq, dropD_eq]
        refine .ag _ _ (by simp; omega) fun j v y hv hy => ?_
        simp only [List.drop_zero, List.getElem?_map, Option.map_eq_some_iff, List.getElem?_take] at hy
        obtain ⟨z, hz, rfl⟩ := hy
        split at hz
        · rename_i hj
          simp [hj] at hv
          subst hv
          exact .d _ _ (hrel j z hz)
        · cases hz
      | false =>
        simp only [cutD, Bool.false_eq_true, if_false]
        have h1 := h1z rfl
        have h0 : cs[0]? = some cs[0] := List.getElem?_eq_getElem (by omega)
        rw [nthD_some h0]
        exact .d _ _ (hrel 0 _ h0)
  · rename_i k off h1
    split at hs
    · rename_i cs h2
      obtain ⟨hs, hlt⟩ := hs
      have e1 := evV_ok H hx hs
      rw [h1] at e1
      obtain ⟨b, arr, e, hb, hh, hz, hr⟩ := own_ok H h2
      generalize hu : a.eval ox = u at *
      cases e1 with
      | own _ _ b' hb' =>
        rw [hb] at hb'
        injection hb' with hb'; injection hb' with hb'; injection hb' with hb'; injection hb' with hb'
        subst hb'
        have hcell : ∀ j, j < sz → w.cell? ⟨b, off + j, none⟩ = some (arr.getD (off + j) undef) := fun j hj => by
          rw [cell_of_row w b (off + j) arr e (0, 0) hh]
          have : off + j < arr.size := by omega
          simp [this]
        refine Runs.val H hd (exec_val (s := Instr.loadAt t (a.eval ox)) (by simp [execOp, ho]) (by rw [hu]; exact run_loadAt hsz hag h1z hcell)) ?_
        cases agg with
        | true =>
          simp only [cut, if_true]
          rw [takeV_eq, dropV_eq]
          refine .ag _ _ (by simp; omega) fun j v y hv hy => ?_
          rw [List.getElem?_take, List.getElem?_drop] at hy
          split at hy
          · rename_i hj
            have hlt2 : off + j < arr.size := by omega
            simp [hj, hlt2] at hv
            exact hr (off + j) v y (by rw [Array.getElem?_eq_getElem hlt2]; simp [hv]) hy
          · cases hy
        | false =>
          simp only [cut, Bool.false_eq_true, if_false]
          have h1 := h1z rfl
          have hlt2 : off < arr.size := by omega
          have h0 : cs[off]? = some cs[off] := List.getElem?_eq_getElem (by omega)
          rw [nth_some h0]
          exact hr off _ _ (by simp [Array.getElem?_eq_getElem hlt2]) h0
    · exact hs.elim
  · rename_i k sz' i off h1
    split at hs
    · rename_i e0 sz2 n f h2
      obtain ⟨hs, rfl, hin, hlt⟩ := hs
      have e1 := evV_ok H hx hs
      rw [h1] at e1
      obtain ⟨v, xs, hb, hrow, hl, hr⟩ := own_ok H h2
      generalize hu : a.eval ox = u at *
      cases e1 with
      | optr _ _ _ _ b m cp hb' =>
        rw [hb] at hb'
        injection hb' with hb'
        subst hb'
        obtain ⟨hxl, hrow⟩ := hrow
        rcases hrow with ⟨_, hn0⟩ | ⟨g, cap, cur, hv, _, hh, hnc, _, hcs, htk⟩
        · omega
        · injection hv with hv1 hv2 hv3
          injection hv1 with hv1; injection hv1 with hv1
          subst hv1
          have hxs : ∀ j, j < n * sz' → cur[j]? = xs[j]? := fun j hj => by
            rw [← htk, List.getElem?_take]; simp [hj]
          have hidx : ∀ j, j < sz → i * sz' + off + j < n * sz' := fun j hj => by
            have : (i + 1) * sz' ≤ n * sz' := Nat.mul_le_mul_right _ hin
            rw [Nat.add_mul] at this; omega
          have hfl := hl i hin
          have hget : ∀ j (z : D), (f i)[off + j]? = some z → j < sz → ∃ uu, cur[i * sz' + off + j]? = some uu ∧ RelD (Eo c.E0 β st.own) w uu z := fun j z hz hj => by
            obtain ⟨uu, h3, h4⟩ := hr i (off + j) hin (by omega) z hz
            exact ⟨uu, by rw [hxs _ (hidx j hj), Nat.add_assoc]; exact h3, h4⟩
          have hcell : ∀ j, j < sz → w.cell? ⟨b, i * sz' + off + j, none⟩ = some (cur.getD (i * sz' + off + j) undef) := fun j hj => by
            rw [cell_of_row w b _ cur _ (0, 0) hh]
            have : i * sz' + off + j < cur.size := by
              have := hidx j hj
              have h5 : n * sz' ≤ cap * sz' := Nat.mul_le_mul_right _ hnc
              omega
            simp [this]
          refine Runs.val H hd (exec_val (s := Instr.loadAt t (a.eval ox)) (by simp [execOp, ho]) (by rw [hu]; exact run_loadAt hsz hag h1z hcell)) ?_
          cases agg with
          | true =>
            simp only [cutD, if_true]
            rw [takeDV_eq, dropD_eq]
            refine .ag _ _ (by simp [hfl]; omega) fun j v y hv hy => ?_
            simp only [List.getElem?_map, Option.map_eq_some_iff, List.getElem?_take, List.getElem?_drop] at hy
            obtain ⟨z, hz, rfl⟩ := hy
            split at hz
            · rename_i hj
              obtain ⟨uu, h3, h4⟩ := hget j z hz hj
              simp [hj] at hv
              rw [h3] at hv
              simp at hv
              subst hv
              exact .d _ _ h4
            · cases hz
          | false =>
            simp only [cutD, Bool.false_eq_true, if_false]
            have h1 := h1z rfl
            subst h1
            have h0 : (f i)[off]? = some (f i)[off] := List.getElem?_eq_getElem (by omega)
            rw [nthD_some h0]
            obtain ⟨uu, h3, h4⟩ := hget 0 _ h0 (by omega)
            simp only [Nat.add_zero] at h3 ⊢
            simp only [Array.getD_eq_getD_getElem?, h3, Option.getD_some]
            exact .d _ _ h4
    · rename_i sz2 n cs h2
      obtain ⟨hs, rfl, hin, hlt⟩ := hs
      have e1 := evV_ok H hx hs
      rw [h1] at e1
      obtain ⟨b0, arr, e, cap, hb, _, _, hh, hz, hcl, hr⟩ := own_ok H h2
      generalize hu : a.eval ox = u at *
      cases e1 with
      | optr _ _ _ _ b m cp hb' =>
        rw [hb] at hb'
        injection hb' with hb'; injection hb' with hb1 hb2 hb3; injection hb1 with hb1; injection hb1 with hb1
        subst hb1
        have hidx : ∀ j, j < sz → i * sz' + off + j < n * sz' := fun j hj => by
          have : (i + 1) * sz' ≤ n * sz' := Nat.mul_le_mul_right _ hin
          rw [Nat.add_mul] at this; omega
        have hcell : ∀ j, j < sz → w.cell? ⟨b0, i * sz' + off + j, none⟩ = some (arr.getD (i * sz' + off + j) undef) := fun j hj => by
          rw [cell_of_row w b0 _ arr _ (0, 0) hh]
          have := hidx j hj
          have : i * sz' + off + j < arr.size := by omega
          simp [this]
        refine Runs.val H hd (exec_val (s := Instr.loadAt t (a.eval ox)) (by simp [execOp, ho]) (by rw [hu]; exact run_loadAt hsz hag h1z hcell)) ?_
        cases agg with
        | true =>
          simp only [cut, if_true]
          rw [takeV_eq, dropV_eq]
          refine .ag _ _ (by
            simp
            rcases Nat.eq_zero_or_pos sz with h | h
            · omega
            · have := hidx (sz - 1) (by omega); omega) fun j v y hv hy => ?_
          rw [List.getElem?_take, List.getElem?_drop] at hy
          split at hy
          · rename_i hj
            have := hidx j hj
            have hlt2 : i * sz' + off + j < arr.size := by omega
            simp [hj, hlt2] at hv
            exact hr (i * sz' + off + j) v y (by rw [Array.getElem?_eq_getElem hlt2]; simp [hv]) hy
          · cases hy
        | false =>
          simp only [cut, Bool.false_eq_true, if_false]
          have h1 := h1z rfl
          have := hidx 0 (by omega)
          have hlt2 : i * sz' + off < arr.size := by omega
          have h0 : cs[i * sz' + off]? = some cs[i * sz' + off] := List.getElem?_eq_getElem (by omega)
          rw [nth_some h0]
          exact hr (i * sz' + off) _ _ (by simp [Array.getElem?_eq_getElem hlt2]) h0
    · exact hs.elim
  · exact hs.elim

end
end Go.Bx
