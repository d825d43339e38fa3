/-
  The engine, part 8: addresses, lengths, parts of arrays, function values, slices cut.
-/
import Derived.Test.YthkfedghiklmeaaEng7
namespace Go.Bx
open Go.RowKit

section
variable {c : Ctx} {β : Names} {st : St} {a : Act} {w : World} {o : Oper} {d : Nat}

theorem run_fieldAt' {P : Program} {w : World} {t : TypeId} {fs : Array Field} {f : Nat} {fd : Field} {b off : Nat} (ht : P.underlying t = some (.struct fs)) (hf : fs[f]? = some fd) {fz : Nat} (hz : szB P fd.type = some fz) (hz0 : fz ≠ 0) :
    (Instr.fieldAt t (.pointer (some ⟨b, off, none⟩)) f).run P w = .ok (.pointer (some ⟨b, off + fd.offset, none⟩)) w := by
  obtain ⟨i, hi, hi2⟩ := Option.map_eq_some_iff.1 hz
  have : i.size ≠ 0 := by omega
  simp [Instr.fieldAt, run_underlying ht, hf, Instr.sureAddr, fieldPlace, sizeOf, typeInfo, hi, this, addr_add]

theorem s_fadr (H : Holds c β st a w) (hd : ∀ d, o.dst = some d → d < c.nt) {off f : Nat} {t : TypeId} {fs : Array Field} {fd : Field} {ox : Operand} {x : X} (ho : o.op = .fieldAddr t ox f) (ht : c.P.underlying t = some (.struct fs)) (hf : fs[f]? = some fd) (hoff : fd.offset = off)
    {fz : Nat} (hz : szB c.P fd.type = some fz) (hz0 : fz ≠ 0) (hx : cX ox = some x)
    (hs : (opR st true d (.fadr off x)).side) : Runs c β (st.app o.dst (opR st true d (.fadr off x))) a o w := by
  subst hoff
  simp only [opR] at hs ⊢
  have hrun : ∀ b off, a.eval ox = .pointer (some ⟨b, off, none⟩) → (execOp a.eval o).run c.P w = .ok (.value (.pointer (some ⟨b, off + fd.offset, none⟩))) w := fun b off he =>
    exec_val (s := Instr.fieldAt t (a.eval ox) f) (by simp [execOp, ho]) (by rw [he]; exact run_fieldAt' ht hf hz hz0)
  split at hs
  · rename_i cs h1
    obtain ⟨hs, hlt⟩ := hs
    have e1 := evV_ok H hx hs
    rw [h1] at e1
    generalize hu : a.eval ox = u at *
    cases e1 with
    | mem _ b off g hcell hrel =>
      refine Runs.val H hd (hrun b off rfl) ?_
      rw [dropD_eq]
      refine .mem _ _ _ (fun j => g (fd.offset + j)) (fun j hj => ?_) (fun j y hy => ?_)
      · simp at hj
        have := hcell (fd.offset + j) (by omega)
        rwa [← Nat.add_assoc] at this
      · rw [List.getElem?_drop] at hy
        exact hrel _ y hy
  · rename_i k o' h1
    have e1 := evV_ok H hx hs
    rw [h1] at e1
    generalize hu : a.eval ox = u at *
    cases e1 with
    | own _ _ b hb => exact Runs.val H hd (hrun b o' rfl) (.own _ _ _ hb)
  · rename_i k sz i o' h1
    have e1 := evV_ok H hx hs
    rw [h1] at e1
    generalize hu : a.eval ox = u at *
    cases e1 with
    | optr _ _ _ _ b m cp hb =>
      refine Runs.val H hd (hrun b _ rfl) ?_
      rw [Nat.add_assoc]
      exact .optr _ _ _ _ _ _ _ hb
  · exact hs.elim

theorem run_indexAt_sl {P : Program} {w : World} {t e : TypeId} {sz : Nat} (ht : P.underlying t = some (.slice e)) (hz : szB P e = some sz) {b off n cp : Nat} {k : IntKind} {m : Int} (h0 : 0 ≤ m) (h1 : m < (n : Int)) :
    (Instr.indexAt t (.slice (some ⟨b, off, none⟩) n cp) (.int k m)).run P w = .ok (.pointer (some ⟨b, off + m.toNat * sz, none⟩)) w := by
  obtain ⟨i, hi, hi2⟩ := Option.map_eq_some_iff.1 hz
  simp [Instr.indexAt, asIntOf, run_underlying ht, h0, h1, sizeOf, typeInfo, hi, hi2, addr_add]

theorem s_iadr (H : Holds c β st a w) (hd : ∀ d, o.dst = some d → d < c.nt) {sz : Nat} {t e : TypeId} {ox oi : Operand} {x i : X} (ho : o.op = .indexAddr t ox oi) (ht : c.P.underlying t = some (.slice e)) (hz : szB c.P e = some sz) (hx : cX ox = some x) (hi : cX oi = some i)
    (hs : (opR st true d (.iadr sz x i)).side) : Runs c β (st.app o.dst (opR st true d (.iadr sz x i))) a o w := by
  simp only [opR] at hs ⊢
  have hrun : ∀ b off n cp k m, a.eval ox = .slice (some ⟨b, off, none⟩) n cp → a.eval oi = .int k m → 0 ≤ m → m < (n : Int) → (execOp a.eval o).run c.P w = .ok (.value (.pointer (some ⟨b, off + m.toNat * sz, none⟩))) w := fun b off n cp k m he hi h0 h1 =>
    exec_val (s := Instr.indexAt t (a.eval ox) (a.eval oi)) (by simp [execOp, ho]) (by rw [he, hi]; exact run_indexAt_sl ht hz h0 h1)
  split at hs
  · rename_i full sz' n f kk m h1 h2
    obtain ⟨hsx, hsi, h0, hm, rfl⟩ := hs
    have e1 := evV_ok H hx hsx
    have e2 := evV_ok H hi hsi
    rw [h1] at e1
    rw [h2] at e2
    have e2 := rel_int e2
    generalize hu : a.eval ox = u at *
    cases e1 with
    | d _ _ e1 =>
      cases e1 with
      | nil _ _ _ _ => omega
      | sl _ _ _ _ b off cp g hc hf hl hcell hrel =>
        have hmn : m.toNat < n := by omega
        refine Runs.val H hd (hrun b off n cp kk m rfl e2 h0 hm) ?_
        refine .mem _ _ _ (fun j => g m.toNat j) (fun j hj => ?_) (fun j y hy => ?_)
        · rw [hl _ hmn] at hj
          have := hcell m.toNat j hmn hj
          rwa [← Nat.add_assoc] at this
        · have hj : j < sz := by
            have := (List.getElem?_eq_some_iff.1 hy).1
            rwa [hl _ hmn] at this
          exact hrel m.toNat j hmn hj y hy
  · rename_i k kk m h1 h2
    have fin : ∀ (n : Nat), evS true st x → evS true st i → 0 ≤ m → m < (n : Int) → (∃ b cp, β k = some (.slice (some ⟨b, 0, none⟩) n cp)) → ∀ sd rd, Runs c β (st.app o.dst { side := sd, val := .optr k sz m.toNat 0, upd := [], rd := rd }) a o w := by
      intro n hsx hsi h0 hm ⟨b, cp, hb⟩ sd rd
      have e1 := evV_ok H hx hsx
      have e2 := evV_ok H hi hsi
      rw [h1] at e1
      rw [h2] at e2
      have e2 := rel_int e2
      generalize hu : a.eval ox = u at *
      cases e1 with
      | osl _ _ hb' _ =>
        rw [hb] at hb'
        injection hb' with hb'
        subst hb'
        refine Runs.val H hd (hrun b 0 n cp kk m rfl e2 h0 hm) ?_
        have := RelV.optr (β := β) (E := Eo c.E0 β st.own) (w := w) k sz m.toNat 0 b n cp hb
        simpa using this
    split at hs
    · rename_i e0 sz' n f h3
      obtain ⟨hsx, hsi, h0, hm, rfl⟩ := hs
      obtain ⟨v, xs, hb, hrow, _, _⟩ := own_ok H h3
      obtain ⟨_, hrow⟩ := hrow
      rcases hrow with ⟨_, hn0⟩ | ⟨g, cap, cur, hv, _⟩
      · omega
      · exact fin n hsx hsi h0 hm ⟨g, cap, by rw [hb, hv]⟩ _ _
    · rename_i sz' n cs h3
      obtain ⟨hsx, hsi, h0, hm, rfl⟩ := hs
      obtain ⟨b, arr, e, cap, hb, _⟩ := own_ok H h3
      exact fin n hsx hsi h0 hm ⟨b, cap, hb⟩ _ _
    · exact hs.elim
  · rename_i k sz' lo n kk m h1 h2
    obtain ⟨hsx, hsi, h0, hm, rfl⟩ := hs
    have e1 := evV_ok H hx hsx
    have e2 := evV_ok H hi hsi
    rw [h1] at e1
    rw [h2] at e2
    have e2 := rel_int e2
    generalize hu : a.eval ox = u at *
    cases e1 with
    | osub _ _ _ _ b m0 c0 aa hb hn ha =>
      have := ha (by omega)
      subst this
      refine Runs.val H hd (hrun b _ n _ kk m rfl e2 h0 hm) ?_
      have := RelV.optr (β := β) (E := Eo c.E0 β st.own) (w := w) k sz (lo + m.toNat) 0 b m0 c0 hb
      rw [Nat.add_mul] at this
      simpa using this
    | osub0 _ _ _ hb => omega
  · exact hs.elim

theorem run_indexAt_ar {P : Program} {w : World} {t e : TypeId} {sz len : Nat} (ht : P.underlying t = some (.array len e)) (hz : szB P e = some sz) {b off : Nat} {k : IntKind} {m : Int} (h0 : 0 ≤ m) (h1 : m < (len : Int)) :
    (Instr.indexAt t (.pointer (some ⟨b, off, none⟩)) (.int k m)).run P w = .ok (.pointer (some ⟨b, off + m.toNat * sz, none⟩)) w := by
  obtain ⟨i, hi, hi2⟩ := Option.map_eq_some_iff.1 hz
  simp [Instr.indexAt, asIntOf, Instr.sureAddr, run_underlying ht, h0, h1, sizeOf, typeInfo, hi, hi2, addr_add]

theorem s_aadr (H : Holds c β st a w) (hd : ∀ d, o.dst = some d → d < c.nt) {sz len : Nat} {t e : TypeId} {ox oi : Operand} {x i : X} (ho : o.op = .indexAddr t ox oi) (ht : c.P.underlying t = some (.array len e)) (hz : szB c.P e = some sz) (hx : cX ox = some x) (hi : cX oi = some i)
    (hs : (opR st true d (.aadr sz len x i)).side) : Runs c β (st.app o.dst (opR st true d (.aadr sz len x i))) a o w := by
  simp only [opR] at hs ⊢
  have hrun : ∀ b off k m, a.eval ox = .pointer (some ⟨b, off, none⟩) → a.eval oi = .int k m → 0 ≤ m → m < (len : Int) → (execOp a.eval o).run c.P w = .ok (.value (.pointer (some ⟨b, off + m.toNat * sz, none⟩))) w := fun b off k m he hi h0 h1 =>
    exec_val (s := Instr.indexAt t (a.eval ox) (a.eval oi)) (by simp [execOp, ho]) (by rw [he, hi]; exact run_indexAt_ar ht hz h0 h1)
  split at hs
  · rename_i cs kk m h1 h2
    obtain ⟨hsx, hsi, h0, hm, hlen⟩ := hs
    have e1 := evV_ok H hx hsx
    have e2 := evV_ok H hi hsi
    rw [h1] at e1
    rw [h2] at e2
    have e2 := rel_int e2
    generalize hu : a.eval ox = u at *
    cases e1 with
    | mem _ b off g hcell hrel =>
      refine Runs.val H hd (hrun b off kk m rfl e2 h0 hm) ?_
      rw [dropD_eq]
      refine .mem _ _ _ (fun j => g (m.toNat * sz + j)) (fun j hj => ?_) (fun j y hy => ?_)
      · simp at hj
        have := hcell (m.toNat * sz + j) (by omega)
        rwa [← Nat.add_assoc] at this
      · rw [List.getElem?_drop] at hy
        exact hrel _ y hy
  · rename_i k o' kk m h1 h2
    obtain ⟨hsx, hsi, h0, hm⟩ := hs
    have e1 := evV_ok H hx hsx
    have e2 := evV_ok H hi hsi
    rw [h1] at e1
    rw [h2] at e2
    have e2 := rel_int e2
    generalize hu : a.eval ox = u at *
    cases e1 with
    | own _ _ b hb => exact Runs.val H hd (hrun b _ kk m rfl e2 h0 hm) (.own _ _ _ hb)
  · rename_i k s j o' kk m h1 h2
    obtain ⟨hsx, hsi, h0, hm⟩ := hs
    have e1 := evV_ok H hx hsx
    have e2 := evV_ok H hi hsi
    rw [h1] at e1
    rw [h2] at e2
    have e2 := rel_int e2
    generalize hu : a.eval ox = u at *
    cases e1 with
    | optr _ _ _ _ b m0 cp hb =>
      refine Runs.val H hd (hrun b _ kk m rfl e2 h0 hm) ?_
      rw [Nat.add_assoc]
      exact .optr _ _ _ _ _ _ _ hb
  · exact hs.elim

theorem s_idx (H : Holds c β st a w) (hd : ∀ d, o.dst = some d → d < c.nt) {sz len : Nat} {agg : Bool} {t e : TypeId} {ox oi : Operand} {x i : X} (ho : o.op = .index t ox oi) (ht : c.P.underlying t = some (.array len e)) (hz : szB c.P e = some sz) (hag : aggB c.P e = some agg) (h1z : agg = false → sz = 1) (hx : cX ox = some x) (hi : cX oi = some i)
    (hs : (opR st true d (.idx sz len agg x i)).side) : Runs c β (st.app o.dst (opR st true d (.idx sz len agg x i))) a o w := by
  simp only [opR] at hs ⊢
  split at hs
  · rename_i cs kk m h1 h2
    obtain ⟨hsx, hsi, h0, hm, hlen⟩ := hs
    have e1 := evV_ok H hx hsx
    have e2 := evV_ok H hi hsi
    rw [h1] at e1
    rw [h2] at e2
    have e2 := rel_int e2
    generalize hu : a.eval ox = u at *
    obtain ⟨ii, hii, hii2⟩ := Option.map_eq_some_iff.1 hz
    cases e1 with
    | ag arr _ hsz hr =>
      have hlt : m.toNat * sz + sz ≤ cs.length := by
        have h5 : (m.toNat + 1) * sz ≤ len * sz := Nat.mul_le_mul_right _ (by omega)
        rw [Nat.add_mul] at h5
        rw [Nat.mul_comm sz len] at hlen
        omega
      have hag' := run_isAgg hag w
      cases agg with
      | true => exact Runs.val H hd (by simp [execOp, ho, hu, e2, Instr.index, asIntOf, run_underlying ht, h0, hm, sizeOf, typeInfo, hii, hii2, part, hag']) (arr_cut hsz hr hlt)
      | false =>
        have h1 := h1z rfl
        subst h1
        have hlt' : m.toNat * 1 < arr.size := by omega
        have hlc : m.toNat * 1 < cs.length := by omega
        have hg : arr[m.toNat * 1]? = some arr[m.toNat * 1] := Array.getElem?_eq_getElem hlt'
        refine Runs.val H hd (v := arr[m.toNat * 1]) ?_ (by simp only [cut, Bool.false_eq_true, if_false]; rw [nth_some (List.getElem?_eq_getElem hlc)]; exact hr _ _ _ hg (List.getElem?_eq_getElem hlc))
        have hlt2 : m.toNat < arr.size := by omega
        simp [execOp, ho, hu, e2, Instr.index, asIntOf, run_underlying ht, h0, hm, sizeOf, typeInfo, hii, hii2, part, hag', hlt2]
  · exact hs.elim

theorem s_sidx (H : Holds c β st a w) (hd : ∀ d, o.dst = some d → d < c.nt) {t : TypeId} {s : ByteArray} {oi : Operand} {i : X} (ho : o.op = .index t (.const (.string s)) oi) (ht : c.P.underlying t = some .string) (hi : cX oi = some i)
    (hs : (opR st true d (.sidx s i)).side) : Runs c β (st.app o.dst (opR st true d (.sidx s i))) a o w := by
  simp only [opR] at hs ⊢
  split at hs
  · rename_i kk m h2
    obtain ⟨hsi, h0, hm⟩ := hs
    have e2 := evV_ok H hi hsi
    rw [h2] at e2
    have e2 := rel_int e2
    have hlt : m.toNat < s.size := by omega
    refine Runs.val H hd (v := .int .u8 (sAt s m.toNat)) ?_ (mk_int _ _)
    have e3 : s[m.toNat]? = some s[m.toNat] := getElem?_pos s m.toNat hlt
    have e0 : a.eval (.const (.string s)) = .string s := rfl
    simp [execOp, ho, e0, e2, Instr.index, asIntOf, run_underlying ht, h0, e3, sAt]
  · exact hs.elim

theorem s_len (H : Holds c β st a w) (hd : ∀ d, o.dst = some d → d < c.nt) {t e : TypeId} {ox : Operand} {x : X} (ho : o.op = .call { callee := .builtin .len, args := #[ox], argTypes := #[t] }) (ht : c.P.underlying t = some (.slice e)) (hx : cX ox = some x)
    (hs : (opR st true d (.len x)).side) : Runs c β (st.app o.dst (opR st true d (.len x))) a o w := by
  simp only [opR] at hs ⊢
  have hrun : ∀ A (n : Nat) cp, a.eval ox = .slice A n cp → (execOp a.eval o).run c.P w = .ok (.value (.int .i64 n)) w := fun A n cp he => by
    simp [execOp, ho, resolve, invoke, builtin, Builtin.len_, run_underlying ht, he, goInt]
  split at hs
  · rename_i full sz n f h1
    have e1 := evV_ok H hx hs
    rw [h1] at e1
    generalize hu : a.eval ox = u at *
    cases e1 with
    | d _ _ e1 =>
      cases e1 with
      | nil _ _ _ _ => exact Runs.val H hd (hrun _ _ _ rfl) (mk_int _ _)
      | sl _ _ _ _ b off cp g hc hf hl hcell hrel => exact Runs.val H hd (hrun _ _ _ rfl) (mk_int _ _)
  · rename_i k h1
    split at hs
    · rename_i e0 sz n f h2
      have e1 := evV_ok H hx hs
      rw [h1] at e1
      obtain ⟨v, xs, hb, hrow, _, _⟩ := own_ok H h2
      generalize hu : a.eval ox = u at *
      cases e1 with
      | osl _ _ hb' _ =>
        rw [hb] at hb'
        injection hb' with hb'
        subst hb'
        rcases hrow.2 with ⟨⟨A, rfl⟩, rfl⟩ | ⟨g, cap, cur, rfl, _⟩
        · exact Runs.val H hd (hrun _ _ _ rfl) (mk_int _ _)
        · exact Runs.val H hd (hrun _ _ _ rfl) (mk_int _ _)
    · rename_i sz n cs h2
      have e1 := evV_ok H hx hs
      rw [h1] at e1
      obtain ⟨b, arr, e, cap, hb, _⟩ := own_ok H h2
      generalize hu : a.eval ox = u at *
      cases e1 with
      | osl _ _ hb' _ =>
        rw [hb] at hb'
        injection hb' with hb'
        subst hb'
        exact Runs.val H hd (hrun _ _ _ rfl) (mk_int _ _)
    · exact hs.elim
  · rename_i k sz lo n h1
    have e1 := evV_ok H hx hs
    rw [h1] at e1
    generalize hu : a.eval ox = u at *
    cases e1 with
    | osub _ _ _ _ b m0 c0 aa hb hn ha => exact Runs.val H hd (hrun _ _ _ rfl) (mk_int _ _)
    | osub0 _ _ _ hb => exact Runs.val H hd (hrun _ _ _ rfl) (mk_int _ _)
  · exact hs.elim

theorem s_mkfn (H : Holds c β st a w) (hd : ∀ d, o.dst = some d → d < c.nt) {f : Fn} {of oc : Array Operand} {first cap : List X} (ho : o.op = .makeFunc f of oc) (h1 : cXs of.toList = some first) (h2 : cXs oc.toList = some cap)
    (hs : (opR st true d (.mkfn f first cap)).side) : Runs c β (st.app o.dst (opR st true d (.mkfn f first cap))) a o w := by
  simp only [opR] at hs ⊢
  obtain ⟨e1, r1⟩ := evVs_ok H h1 hs.1
  obtain ⟨e2, r2⟩ := evVs_ok H h2 hs.2
  refine Runs.val H hd (v := .func f (of.map a.eval) (oc.map a.eval)) (by simp [execOp, ho, Instr.makeFunc]) ?_
  refine .fn _ _ _ _ _ (by simpa using e1) (by simpa using e2) (fun j v x hv hx => r1 j v x (by simpa using hv) hx) (fun j v x hv hx => r2 j v x (by simpa using hv) hx)

theorem s_mm (H : Holds c β st a w) (hd : ∀ d, o.dst = some d → d < c.nt) {mx : Bool} {ts : Array TypeId} {ox oy : Operand} {x y : X} (ho : o.op = .call { callee := .builtin (if mx then .max else .min), args := #[ox, oy], argTypes := ts }) (hx : cX ox = some x) (hy : cX oy = some y)
    (hs : (opR st true d (.mm mx x y)).side) : Runs c β (st.app o.dst (opR st true d (.mm mx x y))) a o w := by
  simp only [opR] at hs ⊢
  split at hs
  · rename_i k m k' n h1 h2
    obtain ⟨hsx, hsy, rfl⟩ := hs
    have e1 := evV_ok H hx hsx
    have e2 := evV_ok H hy hsy
    rw [h1] at e1
    rw [h2] at e2
    have e1 := rel_int e1
    have e2 := rel_int e2
    cases mx with
    | true =>
      have h3 : (max m n) = (if n > m then n else m) := by omega
      refine Runs.val H hd ?_ (mk_int k (if true then max m n else min m n))
      simp [execOp, ho, resolve, invoke, builtin, Builtin.max_, Builtin.max2, e1, e2, h3]
    | false =>
      have h3 : (min m n) = (if n < m then n else m) := by omega
      refine Runs.val H hd ?_ (mk_int k (if false then max m n else min m n))
      simp [execOp, ho, resolve, invoke, builtin, Builtin.min_, Builtin.min2, e1, e2, h3]
  · exact hs.elim

end
end Go.Bx
