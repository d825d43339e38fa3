/-
  The engine, part 6: each operation that only yields a value does in the model what the engine says.
-/
import Derived.Test.YthkfedghiklmeaaEng5
namespace Go.Bx
open Go.RowKit

theorem run_isAgg {P : Program} {t : TypeId} {agg : Bool} (h : aggB P t = some agg) (w : World) : (isAgg t).run P w = .ok agg w := by
  unfold aggB at h
  cases hd : P.underlying t with
  | none => simp [hd] at h
  | some dd =>
    simp only [hd] at h
    simp only [isAgg, Sem.run_bind, run_underlying hd, Result.andThen_ok]
    cases dd <;> simp at h <;> subst h <;> rfl

section
variable {c : Ctx} {β : Names} {st : St} {a : Act} {w : World} {o : Oper} {d : Nat}

theorem exec_val {s : Sem Value} {v : Value} {w' : World} (he : execOp a.eval o = (do pure (.value (← s)))) (h : s.run c.P w = .ok v w') : (execOp a.eval o).run c.P w = .ok (.value v) w' := by
  rw [he]; simp [h]

theorem s_mov (H : Holds c β st a w) (hd : ∀ d, o.dst = some d → d < c.nt) {ox : Operand} {x : X} (ho : o.op = .move ox ∨ o.op = .assign ox) (hx : cX ox = some x)
    (hs : (opR st true d (.mov x)).side) : Runs c β (st.app o.dst (opR st true d (.mov x))) a o w := by
  refine Runs.val H hd (v := a.eval ox) ?_ (evV_ok H hx hs)
  rcases ho with ho | ho <;> simp [execOp, ho]

theorem s_nilc (H : Holds c β st a w) (hd : ∀ d, o.dst = some d → d < c.nt) {ox : Operand} {x : X} (ho : o.op = .nilCheck ox) (hx : cX ox = some x)
    (hs : (opR st true d (.nilc x)).side) : Runs c β (st.app o.dst (opR st true d (.nilc x))) a o w := by
  simp only [opR] at hs ⊢
  split at hs
  · rename_i h1
    have e1 := evV_ok H hx hs
    rw [h1] at e1
    refine Runs.val H hd (v := a.eval ox) ?_ e1
    generalize hu : a.eval ox = u at *
    cases e1
    simp [execOp, *]
  · rename_i h1
    have e1 := evV_ok H hx hs
    rw [h1] at e1
    refine Runs.val H hd (v := a.eval ox) ?_ e1
    generalize hu : a.eval ox = u at *
    cases e1
    simp [execOp, *]
  · rename_i h1
    have e1 := evV_ok H hx hs
    rw [h1] at e1
    refine Runs.val H hd (v := a.eval ox) ?_ e1
    generalize hu : a.eval ox = u at *
    cases e1
    simp [execOp, *]
  · rename_i h1
    have e1 := evV_ok H hx hs
    rw [h1] at e1
    refine Runs.val H hd (v := a.eval ox) ?_ e1
    generalize hu : a.eval ox = u at *
    cases e1
    simp [execOp, *]
  · exact hs.elim

theorem s_pick (H : Holds c β st a w) (hd : ∀ d, o.dst = some d → d < c.nt) {ox oy oz : Operand} {x y z : X} (ho : o.op = .pick ox oy oz) (hx : cX ox = some x) (hy : cX oy = some y) (hz : cX oz = some z)
    (hs : (opR st true d (.pick x y z)).side) : Runs c β (st.app o.dst (opR st true d (.pick x y z))) a o w := by
  simp only [opR] at hs ⊢
  split at hs
  · rename_i bc h1
    obtain ⟨h2, h3, h4⟩ := hs
    obtain ⟨e, hr⟩ := ev_pick H hx hy hz h1 h2 h3 h4
    refine Runs.val H hd ?_ hr
    simp only [execOp, ho, e]
    cases bc <;> simp [asBool]
  · exact hs.elim

theorem s_bin (H : Holds c β st a w) (hd : ∀ d, o.dst = some d → d < c.nt) {op : BinOp} {t t' : TypeId} {ox oy : Operand} {x y : X} (ho : o.op = .binOp op t ox oy t') (hx : cX ox = some x) (hy : cX oy = some y)
    (hs : (opR st true d (.bin op x y)).side) : Runs c β (st.app o.dst (opR st true d (.bin op x y))) a o w := by
  simp only [opR] at hs ⊢
  split at hs
  · rename_i k m k' n h1 h2
    obtain ⟨hsx, hsy, rfl, hs⟩ := hs
    have e1 := evV_ok H hx hsx
    have e2 := evV_ok H hy hsy
    rw [h1] at e1
    rw [h2] at e2
    have e1 := rel_int e1
    have e2 := rel_int e2
    have hg : (eqGuard op t ox oy (.int k m) (.int k n)).run c.P w = .ok () w := by
      unfold eqGuard; split <;> rfl
    have key : ∃ v, (binOp op t (.int k m) (.int k n)).run c.P w = .ok v w ∧ RelV β (Eo c.E0 β st.own) w v (binI op k m n).val := by
      cases op <;> simp only [binI, Ef.bad] at hs ⊢ <;> first
        | exact hs.elim
        | (refine ⟨_, ?_, mk_int _ _⟩; simp [binOp, Op.intArith, Op.intBits]; done)
        | (refine ⟨_, ?_, mk_bool _⟩; simp [binOp, Op.intCmp]; done)
        | (refine ⟨_, ?_, mk_int _ _⟩; simp [binOp, Op.intDiv, hs]; done)
    obtain ⟨v, hv, hr⟩ := key
    refine Runs.val H hd (v := v) ?_ hr
    simp [execOp, ho, e1, e2, hg, hv]
  · exact hs.elim

theorem s_shf (H : Holds c β st a w) (hd : ∀ d, o.dst = some d → d < c.nt) {left : Bool} {t t' : TypeId} {ox oy : Operand} {x y : X} (ho : o.op = .binOp (if left then .shl else .shr) t ox oy t') (hx : cX ox = some x) (hy : cX oy = some y)
    (hs : (opR st true d (.shf left x y)).side) : Runs c β (st.app o.dst (opR st true d (.shf left x y))) a o w := by
  simp only [opR] at hs ⊢
  split at hs
  · rename_i k m k' n h1 h2
    obtain ⟨hsx, hsy, hs⟩ := hs
    have e1 := evV_ok H hx hsx
    have e2 := evV_ok H hy hsy
    rw [h1] at e1
    rw [h2] at e2
    have e1 := rel_int e1
    have e2 := rel_int e2
    have hlt : ¬ n < 0 := by omega
    refine Runs.val H hd ?_ (mk_int _ _)
    cases left <;> simp [execOp, ho, e1, e2, eqGuard, binOp, Op.shift, hlt]
  · exact hs.elim

theorem s_beq (H : Holds c β st a w) (hd : ∀ d, o.dst = some d → d < c.nt) {neg : Bool} {t t' : TypeId} {ox oy : Operand} {x y : X} (ho : o.op = .binOp (if neg then .neq else .eql) t ox oy t') (ht : c.P.underlying t = some .bool) (hx : cX ox = some x) (hy : cX oy = some y)
    (hs : (opR st true d (.beq neg x y)).side) : Runs c β (st.app o.dst (opR st true d (.beq neg x y))) a o w := by
  simp only [opR] at hs ⊢
  split at hs
  · rename_i m n h1 h2
    obtain ⟨hsx, hsy⟩ := hs
    have e1 := evV_ok H hx hsx
    have e2 := evV_ok H hy hsy
    rw [h1] at e1
    rw [h2] at e2
    have e1 := rel_bool e1
    have e2 := rel_bool e2
    have hq : (Op.equal t (.bool m) (.bool n)).run c.P w = .ok (m == n) w := by
      have h : ∀ d : Nat, (Op.equalIn (d + 1) t (.bool m) (.bool n)).run c.P w = .ok (m == n) w := fun d => by simp [Op.equalIn, run_underlying ht]
      simp [Op.equal, Op.maxDepth, h 9999]
    refine Runs.val H hd ?_ (mk_bool _)
    cases neg <;> simp [execOp, ho, e1, e2, eqGuard, binOp, hq, bne]
  · exact hs.elim

theorem s_inv (H : Holds c β st a w) (hd : ∀ d, o.dst = some d → d < c.nt) {op : UnOp} {t : TypeId} {ox : Operand} {x : X} (ho : o.op = .unOp op t ox) (hx : cX ox = some x)
    (hs : (opR st true d (.inv op x)).side) : Runs c β (st.app o.dst (opR st true d (.inv op x))) a o w := by
  simp only [opR] at hs ⊢
  split at hs
  · rename_i m h1
    have e1 := evV_ok H hx hs
    rw [h1] at e1
    have e1 := rel_bool e1
    exact Runs.val H hd (by simp [execOp, ho, e1, Op.unary]) (mk_bool _)
  · rename_i k m h1
    have e1 := evV_ok H hx hs
    rw [h1] at e1
    have e1 := rel_int e1
    exact Runs.val H hd (by simp [execOp, ho, e1, Op.unary, Op.intArith]) (mk_int _ _)
  · exact hs.elim

theorem s_conv (H : Holds c β st a w) (hd : ∀ d, o.dst = some d → d < c.nt) {k : IntKind} {s t : TypeId} {ox : Operand} {x : X} (ho : o.op = .convert s t ox) (ht : c.P.underlying t = some (.int k)) {k0 : IntKind} (hs0 : c.P.underlying s = some (.int k0)) (hx : cX ox = some x)
    (hs : (opR st true d (.conv k x)).side) : Runs c β (st.app o.dst (opR st true d (.conv k x))) a o w := by
  simp only [opR] at hs ⊢
  split at hs
  · rename_i k m h1
    have e1 := evV_ok H hx hs
    rw [h1] at e1
    have e1 := rel_int e1
    exact Runs.val H hd (by simp [execOp, ho, e1, convert, run_underlying ht, run_underlying hs0, Conv.intToInt]) (mk_int _ _)
  · exact hs.elim

theorem s_ext (H : Holds c β st a w) (hd : ∀ d, o.dst = some d → d < c.nt) {i : Nat} {ox : Operand} {x : X} (ho : o.op = .extract ox i) (hx : cX ox = some x)
    (hs : (opR st true d (.ext i x)).side) : Runs c β (st.app o.dst (opR st true d (.ext i x))) a o w := by
  simp only [opR] at hs ⊢
  split at hs
  · rename_i vs h1
    obtain ⟨hs, hi⟩ := hs
    have e1 := evV_ok H hx hs
    rw [h1] at e1
    generalize hu : a.eval ox = u at *
    cases e1 with
    | tup arr _ hz hr =>
      have hia : i < arr.size := by omega
      have hg : arr[i]? = some arr[i] := Array.getElem?_eq_getElem hia
      refine Runs.val H hd (v := arr[i]) (by simp [execOp, ho, hu, Instr.extract, hg]) ?_
      rw [nth_some (List.getElem?_eq_getElem hi)]
      exact hr i _ _ hg (List.getElem?_eq_getElem hi)
  · exact hs.elim

theorem arr_cut {E : Nat → Prop} {arr : Array Value} {cs : List V} (hz : arr.size = cs.length) (hr : ∀ (j : Nat) (v : Value) (x : V), arr[j]? = some v → cs[j]? = some x → RelV β E w v x)
    {off sz : Nat} (hlt : off + sz ≤ cs.length) : RelV β E w (.agg (arr.extract off (off + sz))) (.ag (takeV (dropV cs off) sz)) := by
  rw [takeV_eq, dropV_eq]
  refine .ag _ _ (by simp [List.length_take, List.length_drop]; omega) fun j v x hv hx => ?_
  rw [Array.getElem?_extract] at hv
  rw [List.getElem?_take, List.getElem?_drop] at hx
  split at hv
  · split at hx
    · exact hr _ v x hv hx
    · cases hx
  · cases hv

theorem s_fld (H : Holds c β st a w) (hd : ∀ d, o.dst = some d → d < c.nt) {off sz f : Nat} {agg : Bool} {t : TypeId} {fs : Array Field} {fd : Field} {ox : Operand} {x : X} (ho : o.op = .field t ox f) (ht : c.P.underlying t = some (.struct fs)) (hf : fs[f]? = some fd) (hoff : fd.offset = off)
    (hsz : szB c.P fd.type = some sz) (hag : aggB c.P fd.type = some agg) (h1z : agg = false → sz = 1) (hx : cX ox = some x)
    (hs : (opR st true d (.fld off sz agg x)).side) : Runs c β (st.app o.dst (opR st true d (.fld off sz agg x))) a o w := by
  simp only [opR] at hs ⊢
  split at hs
  · rename_i cs h1
    obtain ⟨hs, hlt⟩ := hs
    have e1 := evV_ok H hx hs
    rw [h1] at e1
    generalize hu : a.eval ox = u at *
    cases e1 with
    | ag arr _ hz hr =>
      subst hoff
      obtain ⟨i, hi, hi2⟩ := Option.map_eq_some_iff.1 hsz
      cases agg with
      | true =>
        refine Runs.val H hd (v := .agg (arr.extract fd.offset (fd.offset + sz))) ?_ (arr_cut hz hr hlt)
        have := run_isAgg hag w
        simp [execOp, ho, hu, Instr.field, run_underlying ht, hf, part, this, asAgg, sizeOf, typeInfo, hi, hi2]
      | false =>
        have h1 := h1z rfl
        subst h1
        have hlt' : fd.offset < arr.size := by omega
        have hlc : fd.offset < cs.length := by omega
        have hg : arr[fd.offset]? = some arr[fd.offset] := Array.getElem?_eq_getElem hlt'
        refine Runs.val H hd (v := arr[fd.offset]) ?_ (by simp only [cut, Bool.false_eq_true, if_false]; rw [nth_some (List.getElem?_eq_getElem hlc)]; exact hr _ _ _ hg (List.getElem?_eq_getElem hlc))
        have := run_isAgg hag w
        simp [execOp, ho, hu, Instr.field, run_underlying ht, hf, part, this, asAgg, hg]
  · exact hs.elim

end
end Go.Bx
