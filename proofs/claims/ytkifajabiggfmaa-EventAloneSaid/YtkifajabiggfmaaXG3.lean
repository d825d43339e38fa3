import Derived.Test.YtkifajabiggfmaaXG2
import Derived.Lib.AppendZerosOnto
import Derived.TacticsIn
import Derived.OrdersIn
section
set_option linter.unusedSimpArgs false
set_option linter.unusedVariables false
namespace Go.Bx
open Go.RowKit
section
variable {c : Ctx} {β : Names} {st : St} {a : Act} {w : World} {o : Oper} {d : Nat}
theorem s_isnil (H : Holds c β st a w) (hd : ∀ d, o.dst = some d → d < c.nt) {neg : Bool} {t t' e : TypeId} {ox : Operand} {x : X} (ho : o.op = .binOp (if neg then .neq else .eql) t ox (.const (.slice none 0 0)) t') (ht : c.P.underlying t = some (.slice e)) (hx : cX ox = some x)
    (hs : (opR st true d (.isnil neg x)).side) : Runs c β (st.app o.dst (opR st true d (.isnil neg x))) a o w := by
  simp only [opR] at hs ⊢
  split at hs
  · rename_i full sz n f h1
    have e1 := evV_ok H hx hs
    rw [h1] at e1
    generalize hu : a.eval ox = u at *
    have hq : ∀ (A : Option Addr) (m cc : Nat), (Op.equal t (.slice A m cc) (.slice none 0 0)).run c.P w = .ok A.isNone w := fun A m cc => by
      have h : ∀ d : Nat, (Op.equalIn (d + 1) t (.slice A m cc) (.slice none 0 0)).run c.P w = .ok A.isNone w := fun d => by cases A <;> simp [Op.equalIn, run_underlying ht]
      simp [Op.equal, Op.maxDepth, h 9999]
    have key : ∃ A m cc, u = .slice A m cc ∧ (A.isNone = true → n = 0) := by
      cases e1 with
      | d _ _ e1 =>
        cases e1 with
        | nil A _ _ _ => exact ⟨A, 0, 0, rfl, fun _ => rfl⟩
        | sl => exact ⟨_, _, _, rfl, fun h => by cases h⟩
    obtain ⟨A, m, cc, rfl, hn⟩ := key
    have hk : a.eval (.const (.slice none 0 0)) = .slice none 0 0 := rfl
    cases neg
    · refine Runs.val H hd (v := .bool A.isNone) ?_ (.d _ _ (.qb _ _ _ hn (fun _ => trivial)))
      simp [execOp, ho, hu, hk, eqGuard, binOp, hq]
    · refine Runs.val H hd (v := .bool (!A.isNone)) ?_ (.d _ _ (.qb _ _ _ (fun _ => trivial) (fun h => hn (by simpa using h))))
      simp [execOp, ho, hu, hk, eqGuard, binOp, hq]
  · rename_i k h1
    split at hs
    · rename_i e0 sz n f h2
      have e1 := evV_ok H hx hs
      rw [h1] at e1
      obtain ⟨v, xs, hb, hrow, _, _⟩ := own_ok H h2
      generalize hu : a.eval ox = u at *
      have hq : ∀ (A : Option Addr) (m cc : Nat), (Op.equal t (.slice A m cc) (.slice none 0 0)).run c.P w = .ok A.isNone w := fun A m cc => by
        have h : ∀ d : Nat, (Op.equalIn (d + 1) t (.slice A m cc) (.slice none 0 0)).run c.P w = .ok A.isNone w := fun d => by cases A <;> simp [Op.equalIn, run_underlying ht]
        simp [Op.equal, Op.maxDepth, h 9999]
      have key : ∃ A m cc, u = .slice A m cc ∧ (A.isNone = true → n = 0) := by
        cases e1 with
        | osl _ _ hb' _ =>
          rw [hb] at hb'
          injection hb' with hb'
          subst hb'
          rcases hrow.2 with ⟨⟨A, rfl⟩, rfl⟩ | ⟨g, cap, cur, rfl, _⟩
          · exact ⟨A, 0, 0, rfl, fun _ => rfl⟩
          · exact ⟨_, _, _, rfl, fun h => by cases h⟩
      obtain ⟨A, m, cc, rfl, hn⟩ := key
      have hk : a.eval (.const (.slice none 0 0)) = .slice none 0 0 := rfl
      cases neg
      · refine Runs.val H hd (v := .bool A.isNone) ?_ (.d _ _ (.qb _ _ _ hn (fun _ => trivial)))
        simp [execOp, ho, hu, hk, eqGuard, binOp, hq]
      · refine Runs.val H hd (v := .bool (!A.isNone)) ?_ (.d _ _ (.qb _ _ _ (fun _ => trivial) (fun h => hn (by simpa using h))))
        simp [execOp, ho, hu, hk, eqGuard, binOp, hq]
    · exact hs.elim
  · exact hs.elim
theorem s_cap (H : Holds c β st a w) (hd : ∀ d, o.dst = some d → d < c.nt) {t e : TypeId} {ox : Operand} {x : X} (ho : o.op = .call { callee := .builtin .cap, args := #[ox], argTypes := #[t] }) (ht : c.P.underlying t = some (.slice e)) (hx : cX ox = some x)
    (hs : (opR st true d (.cap x)).side) : Runs c β (st.app o.dst (opR st true d (.cap x))) a o w := by
  simp only [opR] at hs ⊢
  have hrun : ∀ A (n : Nat) cp, a.eval ox = .slice A n cp → (execOp a.eval o).run c.P w = .ok (.value (.int .i64 cp)) w := fun A n cp he => by
    simp [execOp, ho, resolve, invoke, builtin, Builtin.cap_, run_underlying ht, he, goInt]
  split at hs
  · rename_i sz n f h1
    have e1 := evV_ok H hx hs
    rw [h1] at e1
    generalize hu : a.eval ox = u at *
    cases e1 with
    | d _ _ e1 =>
      cases e1 with
      | nil _ _ _ _ => exact Runs.val H hd (hrun _ _ _ rfl) (mk_int _ _)
      | sl _ _ _ _ b off cp g hc hf hl hcell hrel =>
        have := hf rfl
        subst this
        exact Runs.val H hd (hrun _ _ _ rfl) (mk_int _ _)
  · exact hs.elim
theorem s_apz (H : Holds c β st a w) (hdst : o.dst = some d) (hd : d < c.nt) {t t' e : TypeId} {kn : IntKind} {sz bytes : Nat} {zd : List D} {ox oy : Operand} {x y : X} (ho : o.op = .call { callee := .builtin .append, args := #[ox, oy], argTypes := #[t, t'] }) (ht : c.P.underlying t = some (.slice e)) (ht' : c.P.underlying t' = some (.int kn))
    {i : TypeInfo} {z : Value} (hi : c.P.info? e = some i) (hz : i.zero = some z) (hsize : i.size = sz) (hby : i.bytes = bytes) (hzs : z.cells.size = sz) (hzd : cVs z.cells.toList = some (zd.map .d)) (hpos : 0 < sz) (hx : cX ox = some x) (hy : cX oy = some y)
    (hs : (opR st true d (.apz e sz bytes zd x y)).side) : Runs c β (st.app o.dst (opR st true d (.apz e sz bytes zd x y))) a o w := by
  simp only [opR] at hs ⊢
  split at hs
  · rename_i sz1 f kq m h1 h2
    obtain ⟨hsx, hsy, h0, hb, h63, hn⟩ := hs
    have e1 := evV_ok H hx hsx
    have e2 := evV_ok H hy hsy
    rw [h1] at e1
    rw [h2] at e2
    have e2 := rel_int e2
    generalize hu : a.eval ox = u at *
    have hA : ∃ A, u = .slice A 0 0 := by
      cases e1 with
      | d _ _ e1 =>
        cases e1 with
        | nil A _ _ _ => exact ⟨A, rfl⟩
        | sl _ _ _ _ b off cp g hc hf hl hcell hrel => have := hf rfl; subst this; exact ⟨_, rfl⟩
    obtain ⟨A, rfl⟩ := hA
    obtain ⟨n, rfl⟩ : ∃ n : Nat, m = (n : Int) := ⟨m.toNat, by omega⟩
    rw [Int.toNat_natCast] at hb h63 ⊢
    have hn0 : 0 < n := by omega
    have hsmall : n ≤ 9223372036854775807 := by simp only [maxLen] at h63; omega
    have hr := Lib.run_append_grow_zeros (P := c.P) w t t' o.type e i z kq kn ht ht' hi hz A 0 0 [] (by cases A <;> simp [Builtin.firstCells, loadCells, loadCellsFrom]) n hn0 (by omega) (by omega) (by omega) (by rw [hby]; omega) (by
      have := growslice_fits (need := 0 + n) (old := 0) (bytes := i.bytes) (by omega) (by rw [hby, Nat.zero_add]; exact hb)
      exact this)
    simp only [Nat.zero_add] at hr
    have hnews : (Builtin.zeroCells z.cells n).size = n * sz := by rw [size_zeroCells, hzs]
    have hrow := row_grown (w := w) (e := e) (z := z) (sz := sz) (n := 0) (m := n) (old := 0) (xs := []) (news := (Builtin.zeroCells z.cells n).toList) hzs (by simp) (by simpa using hnews) (by omega) (by omega)
    simp only [Nat.zero_add, List.nil_append, Array.toArray_toList] at hrow
    obtain ⟨q1, q2⟩ := cVs_cells (β := fun _ => none) (E := fun _ => False) (w := w) (arr := z.cells) hzd
    have hzl : zd.length = sz := by rw [← hzs, q1]; simp
    refine Runs.mk H hdst hd hn (v := .slice (some ⟨w.heap.size, 0, none⟩) n (grownCap w n 0 e)) (w' := w.drew.alloc (.cells (#[] ++ Builtin.zeroCells z.cells n ++ Builtin.zeroCells z.cells (grownCap w n 0 e - n)) e)) ?_ (keeps_drew_alloc _ _ _) (fun b hb => ?_) (fun β' E' hβ hk hl => ?_) (fun β' E' hk => .osl _ _ hk rfl)
    · simp only [execOp, ho, resolve, invoke, builtin, Sem.run_bind, Sem.run_pure, Result.andThen_ok, List.map_toArray, List.map_cons, List.map_nil, hu, e2, hr]
    · simp only [blkOf] at hb
      split at hb
      · cases hb
      · simp at hb; subst hb; exact ⟨Nat.le_refl _, by simp⟩
    · obtain ⟨q1, q2⟩ := cVs_cells (β := β') (E := E') (w := w.drew.alloc (.cells (#[] ++ Builtin.zeroCells z.cells n ++ Builtin.zeroCells z.cells (grownCap w n 0 e - n)) e)) (arr := z.cells) hzd
      refine ⟨_, (Builtin.zeroCells z.cells n).toList, hk, hrow, fun i' hi' => hzl, fun i' j hi' hj x hx => ?_⟩
      have hlt : i' * sz + j < n * sz := by
        have : (i' + 1) * sz ≤ n * sz := Nat.mul_le_mul_right _ hi'
        rw [Nat.add_mul] at this; omega
      have hm : (i' * sz + j) % sz = j := by rw [Nat.mul_comm, Nat.mul_add_mod, Nat.mod_eq_of_lt hj]
      have hjz : j < z.cells.size := by omega
      refine ⟨z.cells[j], ?_, rel_d (q2 j z.cells[j] (.d x) (Array.getElem?_eq_getElem hjz) (by simp [hx]))⟩
      simp [Builtin.zeroCells, hlt, hzs, hm, getElem!_pos z.cells j hjz]
  · exact hs.elim
end
end Go.Bx
end
section
set_option linter.unusedSimpArgs false
set_option linter.unusedVariables false
namespace Go.Bx
open Go.RowKit
def isAggV : Value → Bool
  | .agg _ => true
  | _ => false
def aggZ (P : Program) (t : TypeId) : Bool :=
  match P.info? t with
  | some i => match i.zero with
    | some z => isAggV z
    | none => false
  | none => false
def toDsO (P : Program) (e : TypeId) : Option (List D) := (zeroB P e).bind toDs
def cBuiltin (P : Program) (b : Builtin) (args : List Operand) (ts : List TypeId) : Option O :=
  match b with
  | .len =>
    match args, ts with
    | [x], [t] =>
      match P.underlying t, cX x with
      | some (.slice _), some x => some (.len x)
      | some (.array n _), some _ => some (.mov (.k (.d (.int .i64 n))))
      | _, _ => none
    | _, _ => none
  | .max =>
    match args with
    | [x, y] =>
      match cX x, cX y with
      | some x, some y => some (.mm true x y)
      | _, _ => none
    | _ => none
  | .min =>
    match args with
    | [x, y] =>
      match cX x, cX y with
      | some x, some y => some (.mm false x y)
      | _, _ => none
    | _ => none
  | .append =>
    match args, ts with
    | [x, y], [t, t'] =>
      match P.underlying t, cX x, cX y with
      | some (.slice e), some x, some y =>
        match P.info? e, zeroB P e with
        | some i, some z => if t = t' ∧ z.length = i.size then some (.app e i.size i.bytes x y) else
            match P.underlying t', toDsO P e with
            | some (.int _), some zd => if zd.length = i.size ∧ 0 < i.size then some (.apz e i.size i.bytes zd x y) else none
            | _, _ => none
        | _, _ => none
      | _, _, _ => none
    | _, _ => none
  | .cap =>
    match args, ts with
    | [x], [t] =>
      match P.underlying t, cX x with
      | some (.slice _), some x => some (.cap x)
      | _, _ => none
    | _, _ => none
  | .copy =>
    match args, ts with
    | [x, y], [t, _] =>
      match P.underlying t, cX x, cX y with
      | some (.slice e), some x, some y => (szB P e).map fun sz => .cpy sz x y
      | _, _, _ => none
    | _, _ => none
  | _ => none
def cCall (P : Program) (cl : Call) : Option O :=
  match cl.callee with
  | .builtin b => cBuiltin P b cl.args.toList cl.argTypes.toList
  | .value (.func f) => (cXs cl.args.toList).map (.call f)
  | .value x =>
    match cX x, cXs cl.args.toList with
    | some x, some xs => some (.callv x xs)
    | _, _ => none
  | .invoke x m =>
    match cX x, cXs cl.args.toList with
    | some x, some xs => some (.ivk m x xs)
    | _, _ => none
def cOp0 (P : Program) (o : Oper) : Option O :=
  match o.op with
  | .move x => (cX x).map .mov
  | .assign x => (cX x).map .mov
  | .pick x y z =>
    match cX x, cX y, cX z with
    | some x, some y, some z => some (.pick x y z)
    | _, _, _ => none
  | .alloc e => (zeroB P e).map (.alloc e)
  | .box e x => (cX x).map (.box e)
  | .build t ps =>
    match P.underlying t, zeroB P t with
    | some (.struct fs), some z =>
      match placesB P fs.toList with
      | some pl => if aggZ P t then (cParts (fun (i : Nat) => pl[i]?) ps.toList).map (.build z) else none
      | none => none
    | some (.array _ e), some z =>
      match szB P e with
      | some sz => if aggZ P t then (cParts (fun i => some (i * sz, sz)) ps.toList).map (.build z) else none
      | none => none
    | _, _ => none
  | .buildSlice t len ps =>
    match P.underlying t with
    | some (.slice e) =>
      match szB P e, zeroB P e, cXs (ps.toList.map (·.2)) with
      | some sz, some _, some xs => if 0 < sz ∧ ps.size = len ∧ ps.toList.map (·.1) = List.range len ∧ len * sz ≤ 16777216 then some (.bslice e sz len xs) else none
      | _, _, _ => none
    | _ => none
  | .load t x =>
    match szB P t, aggB P t, cX x with
    | some sz, some agg, some x => if agg = false → sz = 1 then some (.load sz agg x) else none
    | _, _, _ => none
  | .store t x y =>
    match szB P t, cX x, cX y with
    | some sz, some x, some y => some (.store sz x y)
    | _, _, _ => none
  | .binOp op t x y0 _ =>
    match P.underlying t, cX x, cX y0 with
    | some (.int _), some x, some y =>
      match op with
      | .shl => some (.shf true x y)
      | .shr => some (.shf false x y)
      | op => some (.bin op x y)
    | some .bool, some x, some y =>
      match op with
      | .eql => some (.beq false x y)
      | .neq => some (.beq true x y)
      | _ => none
    | some (.slice _), some x, some _ =>
      match y0, op with
      | .const (.slice none 0 0), .eql => some (.isnil false x)
      | .const (.slice none 0 0), .neq => some (.isnil true x)
      | _, _ => none
    | some _, some x, some y =>
      match aggB P t, leaves P 100 t 0 with
      | some true, some lv => if P.eqGuardType P.depth t = false then
          match op with
          | .eql => some (.eqa false (P.cellsOf t) lv x y)
          | .neq => some (.eqa true (P.cellsOf t) lv x y)
          | _ => none
        else none
      | _, _ => none
    | _, _, _ => none
  | .unOp op _ x => (cX x).map (.inv op)
  | .convert s t x =>
    match P.underlying s, P.underlying t, cX x with
    | some (.int _), some (.int k), some x => some (.conv k x)
    | _, _, _ => none
  | .nilCheck x => (cX x).map .nilc
  | .fieldAddr t x f =>
    match P.underlying t, cX x with
    | some (.struct fs), some x =>
      match fs[f]? with
      | some fd =>
        match szB P fd.type with
        | some sz => if sz ≠ 0 then some (.fadr fd.offset x) else none
        | none => none
      | none => none
    | _, _ => none
  | .field t x f =>
    match P.underlying t, cX x with
    | some (.struct fs), some x =>
      match fs[f]? with
      | some fd =>
        match szB P fd.type, aggB P fd.type with
        | some sz, some agg => if agg = false → sz = 1 then some (.fld fd.offset sz agg x) else none
        | _, _ => none
      | none => none
    | _, _ => none
  | .indexAddr t x i =>
    match P.underlying t, cX x, cX i with
    | some (.slice e), some x, some i => (szB P e).map fun sz => .iadr sz x i
    | some (.array n e), some x, some i => (szB P e).map fun sz => .aadr sz n x i
    | _, _, _ => none
  | .index t x0 i =>
    match P.underlying t, cX x0, cX i with
    | some (.array n e), some x, some i =>
      match szB P e, aggB P e with
      | some sz, some agg => if agg = false → sz = 1 then some (.idx sz n agg x i) else none
      | _, _ => none
    | some .string, none, some i =>
      match x0 with
      | .const (.string s) => some (.sidx s i)
      | _ => none
    | _, _, _ => none
  | .extract x i => (cX x).map (.ext i)
  | .makeFunc f fi ca =>
    match cXs fi.toList, cXs ca.toList with
    | some xs, some ys => some (.mkfn f xs ys)
    | _, _ => none
  | .makeSlice t l k =>
    match P.underlying t, cX l, cX k with
    | some (.slice e), some l, some k =>
      match P.info? e, toDsO P e with
      | some i, some zd => if zd.length = i.size then some (.mks e i.size i.bytes zd l k) else none
      | _, _ => none
    | _, _, _ => none
  | .slice t x lo hi mx =>
    match P.underlying t, cX x with
    | some (.slice e), some x =>
      match szB P e, cX? lo, cX? hi, cX? mx with
      | some sz, some lo, some hi, some mx => some (.slc sz x lo hi mx)
      | _, _, _, _ => none
    | some (.array n e), some x =>
      match szB P e, lo, hi, mx with
      | some sz, none, none, none => some (.asl sz n x)
      | _, _, _, _ => none
    | _, _ => none
  | .call cl => cCall P cl
  | .makeInterface t x =>
    match cX x with
    | some x => if concB P t then some (.mkifc t x) else none
    | none => none
  | .typeAssert x _ t ok =>
    match cX x with
    | some x => if concB P t then some (.tas t ok x) else none
    | none => none
  | .makeMap t r =>
    match r with
    | none => (mapB P t).map .mkmap
    | some _ => none
  | .lookup t x i ok =>
    match mapB P t, cX x, cX i with
    | some z, some x, some i =>
      match P.underlying t with
      | some (.map _ e) => if ok = false ∧ aggZ1 P e = false then some (.lkp z x i) else none
      | _ => none
    | _, _, _ => none
  | .mapUpdate t x i v =>
    match mapB P t, cX x, cX i, cX v with
    | some _, some x, some i, some v => some (.mup x i v)
    | _, _, _, _ => none
  | .insert t x i v =>
    match mapB P t, cX x, cX i, cX v with
    | some _, some x, some i, some v => some (.mup x i v)
    | _, _, _, _ => none
  | _ => none
def cOp (P : Program) (o : Oper) : Option O :=
  match cOp0 P o with
  | some q => some q
  | none => some .never
theorem cOp_0 {P : Program} {o : Oper} {q : O} (h : cOp P o = some q) (hq : q ≠ .never) : cOp0 P o = some q := by
  unfold cOp at h
  split at h
  · rename_i q' hq'; cases h; exact hq'
  · cases h; exact absurd rfl hq
def makes : O → Bool
  | .alloc _ _ => true
  | .box _ _ => true
  | .bslice _ _ _ _ => true
  | .mks _ _ _ _ _ _ => true
  | .app _ _ _ _ _ => true
  | .mkmap _ => true
  | .apz _ _ _ _ _ _ => true
  | _ => false
def isStore : O → Bool
  | .store _ _ _ => true
  | .mup _ _ _ => true
  | _ => false
def isCall : O → Bool
  | .call _ _ => true
  | .callv _ _ => true
  | .ivk _ _ _ => true
  | .asl _ _ _ => true
  | _ => false
theorem zero_of {P : Program} {e : TypeId} {i : TypeInfo} {cs : List V} (hi : P.info? e = some i) (h : zeroB P e = some cs) : ∃ z, i.zero = some z ∧ cVs z.cells.toList = some cs := by
  unfold zeroB at h
  simp only [hi, Option.bind_some] at h
  cases hz : i.zero with
  | none => simp [hz] at h
  | some z => simp only [hz] at h; exact ⟨z, rfl, h⟩
theorem aggZ_ok {P : Program} {t : TypeId} (h : aggZ P t = true) : ∀ i zv, P.info? t = some i → i.zero = some zv → ∃ zc, zv = .agg zc := by
  intro i zv hi hz
  simp only [aggZ, hi, hz] at h
  cases zv <;> simp [isAggV] at h
  exact ⟨_, rfl⟩
section
variable {c : Ctx} {β : Names} {st : St} {a : Act} {w : World} {o : Oper}
theorem op_ok {q : O} (hc : cOp c.P o = some q) (H : Holds c β st a w) (hd : ∀ d, o.dst = some d → d < c.nt) (hmk : makes q = true → o.dst.isSome = true) (hst : isStore q = true → o.dst = none) (hcall : isCall q = false)
    (hs : (opR st true (o.dst.getD 0) q).side) : Runs c β (st.app o.dst (opR st true (o.dst.getD 0) q)) a o w := by
  have hdm : makes q = true → o.dst = some (o.dst.getD 0) := fun h => by
    have := hmk h
    cases ho : o.dst with
    | none => simp [ho] at this
    | some d => rfl
  unfold cOp at hc
  split at hc
  case h_2 => cases hc; simp only [opR, Ef.bad] at hs
  rename_i q' hq'
  cases hc
  have hc := hq'
  clear hq'
  unfold cOp0 at hc
  split at hc
  · rename_i x ho
    obtain ⟨y, hx, rfl⟩ := Option.map_eq_some_iff.1 hc
    exact s_mov H hd (.inl ho) hx hs
  · rename_i x ho
    obtain ⟨y, hx, rfl⟩ := Option.map_eq_some_iff.1 hc
    exact s_mov H hd (.inr ho) hx hs
  · rename_i x y z ho
    split at hc
    · rename_i hx hy hz
      cases hc
      exact s_pick H hd ho hx hy hz hs
    · cases hc
  · rename_i e ho
    obtain ⟨z, hz, rfl⟩ := Option.map_eq_some_iff.1 hc
    have h1 := hdm rfl
    exact s_alloc H h1 (hd _ h1) ho hz hs
  · rename_i e x ho
    obtain ⟨y, hx, rfl⟩ := Option.map_eq_some_iff.1 hc
    have h1 := hdm rfl
    exact s_box H h1 (hd _ h1) ho hx hs
  · rename_i t ps ho
    split at hc
    · rename_i fs z ht hz
      split at hc
      · rename_i pl hpl
        split at hc
        · rename_i hag
          obtain ⟨parts, hp, rfl⟩ := Option.map_eq_some_iff.1 hc
          exact s_build H hd ho hz hp (build_struct ht hpl) (aggZ_ok hag) hs
        · cases hc
      · cases hc
    · rename_i n e z ht hz
      split at hc
      · rename_i sz hsz
        split at hc
        · rename_i hag
          obtain ⟨parts, hp, rfl⟩ := Option.map_eq_some_iff.1 hc
          exact s_build H hd ho hz hp (build_array ht hsz) (aggZ_ok hag) hs
        · cases hc
      · cases hc
    · cases hc
  · rename_i t len ps ho
    split at hc
    · rename_i e ht
      split at hc
      · rename_i sz zc xs hz hzero hx
        split at hc
        · rename_i hh
          cases hc
          have h1 := hdm rfl
          exact s_bslice H h1 (hd _ h1) ho ht hz hzero hh.2.1 hh.2.2.1 hx hh.2.2.2 hh.1 hs
        · cases hc
      · cases hc
    · cases hc
  · rename_i t x ho
    split at hc
    · rename_i sz agg x hz hag hx
      split at hc
      · rename_i h1
        cases hc
        exact s_load H hd ho hz hag h1 hx hs
      · cases hc
    · cases hc
  · rename_i t x y ho
    split at hc
    · rename_i sz x y hz hx hy
      cases hc
      exact s_store H (hst rfl) ho hz hx hy hs
    · cases hc
  · rename_i op t x y t' ho
    split at hc
    · rename_i k x y ht hx hy
      split at hc
      · cases hc
        exact s_shf (left := true) H hd ho hx hy hs
      · cases hc
        exact s_shf (left := false) H hd ho hx hy hs
      · cases hc
        exact s_bin H hd ho hx hy hs
    · rename_i x y ht hx hy
      split at hc
      · cases hc
        exact s_beq (neg := false) H hd ho ht hx hy hs
      · cases hc
        exact s_beq (neg := true) H hd ho ht hx hy hs
      · cases hc
    · rename_i e x y1 ht hx hy
      split at hc
      · cases hc
        exact s_isnil (neg := false) H hd ho ht hx hs
      · cases hc
        exact s_isnil (neg := true) H hd ho ht hx hs
      · cases hc
    · rename_i dd x y _ _ _ ht hx hy
      split at hc
      · rename_i lv hag hlv
        split at hc
        · rename_i hg
          split at hc
          · cases hc
            exact s_eqa (neg := false) H hd ho hag hg hlv hx hy hs
          · cases hc
            exact s_eqa (neg := true) H hd ho hag hg hlv hx hy hs
          · cases hc
        · cases hc
      · cases hc
    · cases hc
  · rename_i op t x ho
    obtain ⟨y, hx, rfl⟩ := Option.map_eq_some_iff.1 hc
    exact s_inv H hd ho hx hs
  · rename_i s t x ho
    split at hc
    · rename_i k k' x h1 h2 hx
      cases hc
      exact s_conv H hd ho h2 h1 hx hs
    · cases hc
  · rename_i x ho
    obtain ⟨y, hx, rfl⟩ := Option.map_eq_some_iff.1 hc
    exact s_nilc H hd ho hx hs
  · rename_i t x f ho
    split at hc
    · rename_i fs x ht hx
      split at hc
      · rename_i fd hf
        split at hc
        · rename_i sz hz
          split at hc
          · rename_i h0
            cases hc
            exact s_fadr H hd ho ht hf rfl hz h0 hx hs
          · cases hc
        · cases hc
      · cases hc
    · cases hc
  · rename_i t x f ho
    split at hc
    · rename_i fs x ht hx
      split at hc
      · rename_i fd hf
        split at hc
        · rename_i sz agg hz hag
          split at hc
          · rename_i h1
            cases hc
            exact s_fld H hd ho ht hf rfl hz hag h1 hx hs
          · cases hc
        · cases hc
      · cases hc
    · cases hc
  · rename_i t x i ho
    split at hc
    · rename_i e x i ht hx hi
      obtain ⟨sz, hz, rfl⟩ := Option.map_eq_some_iff.1 hc
      exact s_iadr H hd ho ht hz hx hi hs
    · rename_i n e x i ht hx hi
      obtain ⟨sz, hz, rfl⟩ := Option.map_eq_some_iff.1 hc
      exact s_aadr H hd ho ht hz hx hi hs
    · cases hc
  · rename_i t x i ho
    split at hc
    · rename_i n e x i ht hx hi
      split at hc
      · rename_i sz agg hz hag
        split at hc
        · rename_i h1
          cases hc
          exact s_idx H hd ho ht hz hag h1 hx hi hs
        · cases hc
      · cases hc
    · rename_i i ht hx hi
      split at hc
      · rename_i s
        cases hc
        exact s_sidx H hd ho ht hi hs
      · cases hc
    · cases hc
  · rename_i x i ho
    obtain ⟨y, hx, rfl⟩ := Option.map_eq_some_iff.1 hc
    exact s_ext H hd ho hx hs
  · rename_i f fi ca ho
    split at hc
    · rename_i xs ys h1 h2
      cases hc
      exact s_mkfn H hd ho h1 h2 hs
    · cases hc
  · rename_i t l k ho
    split at hc
    · rename_i e l k ht hl hk
      split at hc
      · rename_i i zd hi hzd
        split at hc
        · rename_i hlen
          cases hc
          have h1 := hdm rfl
          obtain ⟨cs, hzb, hds⟩ := Option.bind_eq_some_iff.1 hzd
          obtain ⟨z, hz, hcs⟩ := zero_of hi hzb
          have hds' := toDs_some hds
          obtain ⟨q1, _⟩ := cVs_cells (β := β) (E := Eo c.E0 β st.own) (w := w) (arr := z.cells) hcs
          exact s_mks H h1 (hd _ h1) ho ht hi hz rfl rfl (by rw [q1, hds']; simpa using hlen) (by rw [hcs, hds']) hl hk hs
        · cases hc
      · cases hc
    · cases hc
  · rename_i t x lo hi mx ho
    split at hc
    · rename_i e x ht hx
      split at hc
      · rename_i sz lo hi mx hz h1 h2 h3
        cases hc
        exact s_slc H hd ho ht hz hx h1 h2 h3 hs
      · cases hc
    · rename_i n e x ht hx
      split at hc
      · rename_i sz hz
        cases hc
        simp [isCall] at hcall
      · cases hc
    · cases hc
  · rename_i cl ho
    obtain ⟨callee, args, ts⟩ := cl
    unfold cCall at hc
    split at hc
    · rename_i b hb
      simp only at hb hc
      subst hb
      unfold cBuiltin at hc
      split at hc
      · split at hc
        · rename_i x t ha hts
          have ha : args = #[x] := Array.ext' ha
          have hts : ts = #[t] := Array.ext' hts
          subst ha; subst hts
          split at hc
          · rename_i e x ht hx
            cases hc
            exact s_len H hd ho ht hx hs
          · rename_i n e x ht hx
            cases hc
            simp only [opR] at hs ⊢
            refine Runs.val H hd (v := .int .i64 n) (by simp [execOp, ho, resolve, invoke, builtin, Builtin.len_, run_underlying ht, goInt]) (mk_int _ _)
          · cases hc
        · cases hc
      · split at hc
        · rename_i x y ha
          have ha : args = #[x, y] := Array.ext' ha
          subst ha
          split at hc
          · rename_i x y hx hy
            cases hc
            exact s_mm (mx := true) H hd ho hx hy hs
          · cases hc
        · cases hc
      · split at hc
        · rename_i x y ha
          have ha : args = #[x, y] := Array.ext' ha
          subst ha
          split at hc
          · rename_i x y hx hy
            cases hc
            exact s_mm (mx := false) H hd ho hx hy hs
          · cases hc
        · cases hc
      · split at hc
        · rename_i x y t t' ha hts
          have ha : args = #[x, y] := Array.ext' ha
          have hts : ts = #[t, t'] := Array.ext' hts
          subst ha; subst hts
          split at hc
          · rename_i e x y ht hx hy
            split at hc
            · rename_i i zc hi hzb
              split at hc
              · rename_i hh
                cases hc
                obtain ⟨rfl, hlen⟩ := hh
                have h1 := hdm rfl
                obtain ⟨z, hz, hcs⟩ := zero_of hi hzb
                obtain ⟨q1, _⟩ := cVs_cells (β := β) (E := Eo c.E0 β st.own) (w := w) (arr := z.cells) hcs
                exact s_app H h1 (hd _ h1) ho ht hi hz rfl rfl (by rw [q1]; exact hlen) hx hy hs
              · split at hc
                · rename_i kn zd ht' hzd
                  split at hc
                  · rename_i hh
                    cases hc
                    have h1 := hdm rfl
                    obtain ⟨z, hz, hcs⟩ := zero_of hi hzb
                    obtain ⟨q1, _⟩ := cVs_cells (β := β) (E := Eo c.E0 β st.own) (w := w) (arr := z.cells) hcs
                    unfold toDsO at hzd
                    rw [hzb, Option.bind_some] at hzd
                    have hds := toDs_some hzd
                    exact s_apz H h1 (hd _ h1) ho ht ht' hi hz rfl rfl (by rw [q1, hds, List.length_map]; exact hh.1) (by rw [← hds]; exact hcs) hh.2 hx hy hs
                  · cases hc
                · cases hc
            · cases hc
          · cases hc
        · cases hc
      · split at hc
        · rename_i x t ha hts
          have ha : args = #[x] := Array.ext' ha
          have hts : ts = #[t] := Array.ext' hts
          subst ha; subst hts
          split at hc
          · rename_i e x ht hx
            cases hc
            exact s_cap H hd ho ht hx hs
          · cases hc
        · cases hc
      · split at hc
        · rename_i x y t t' ha hts
          have ha : args = #[x, y] := Array.ext' ha
          have hts : ts = #[t, t'] := Array.ext' hts
          subst ha; subst hts
          split at hc
          · rename_i e x y ht hx hy
            obtain ⟨sz, hz, rfl⟩ := Option.map_eq_some_iff.1 hc
            exact s_cpy H hd ho ht hz hx hy hs
          · cases hc
        · cases hc
      · cases hc
    · obtain ⟨xs, hx, rfl⟩ := Option.map_eq_some_iff.1 hc
      simp [isCall] at hcall
    · split at hc
      · cases hc
        simp [isCall] at hcall
      · cases hc
    · split at hc
      · cases hc
        simp [isCall] at hcall
      · cases hc
  · rename_i t x ho
    split at hc
    · rename_i x hx
      split at hc
      · rename_i hb
        cases hc
        exact s_mkifc H hd ho hx (fun v => run_mkifc hb v w) hs
      · cases hc
    · cases hc
  · rename_i x xt t ok ho
    split at hc
    · rename_i x hx
      split at hc
      · rename_i hb
        cases hc
        exact s_tas H hd ho hx hb hs
      · cases hc
    · cases hc
  · rename_i t r ho
    split at hc
    · obtain ⟨z, hz, rfl⟩ := Option.map_eq_some_iff.1 hc
      have h1 := hdm rfl
      exact s_mkmap H h1 (hd _ h1) ho hz hs
    · cases hc
  · rename_i t x i ok ho
    split at hc
    · rename_i z x i hz hx hi
      split at hc
      · rename_i k e ht
        split at hc
        · rename_i hh
          cases hc
          obtain ⟨rfl, hag⟩ := hh
          exact s_lkp H hd ho hz (fun k' e' ht' => by rw [ht] at ht'; cases ht'; exact hag) hx hi hs
        · cases hc
      · cases hc
    · cases hc
  · rename_i t x i v ho
    split at hc
    · rename_i z x i v hz hx hi hv
      cases hc
      exact s_mup H (hst rfl) (.inl ho) hz hx hi hv hs
    · cases hc
  · rename_i t x i v ho
    split at hc
    · rename_i z x i v hz hx hi hv
      cases hc
      exact s_mup H (hst rfl) (.inr ho) hz hx hi hv hs
    · cases hc
  · cases hc
end
end Go.Bx
end
section
set_option linter.unusedSimpArgs false
set_option linter.unusedVariables false
namespace Go.Bx
open Go.RowKit
structure I where
  dst : Option Nat
  g : Option (Nat × Bool)
  op : O
structure Lg where
  rd : List Nat
  wr : List Nat
structure Stp where
  val : V
  upd : List (Nat × Option Own)
  rd : List Nat
  new : List Nat
def Stp.lg (s : Stp) : Lg := { rd := s.rd, wr := s.upd.map (·.1) ++ s.new }
def St.stp (st : St) (dst : Option Nat) (s : Stp) : St := { env := setE st.env dst s.val, own := applyU st.own s.upd, nm := newN st.nm s.upd }
def X.slots : X → List Nat
  | .t s => [s]
  | .k _ => []
def xsSlots : List X → List Nat
  | [] => []
  | x :: l => x.slots ++ xsSlots l
def oxSlots : Option X → List Nat
  | some x => x.slots
  | none => []
def O.slots : O → List Nat
  | .mov x | .box _ x | .load _ _ x | .inv _ x | .conv _ x | .fld _ _ _ x | .fadr _ x | .nilc x | .sidx _ x | .ext _ x | .len x | .isnil _ x | .cap x | .mkifc _ x | .asl _ _ x | .tas _ _ x => x.slots
  | .pick x y z => x.slots ++ (y.slots ++ z.slots)
  | .alloc _ _ => []
  | .build _ ps => xsSlots (ps.map (·.2.2))
  | .bslice _ _ _ xs => xsSlots xs
  | .store _ x y | .bin _ x y | .beq _ x y | .eqa _ _ _ x y | .shf _ x y | .iadr _ x y | .aadr _ _ x y | .idx _ _ _ x y | .mm _ x y | .mks _ _ _ _ x y | .app _ _ _ x y | .apz _ _ _ _ x y | .cpy _ x y | .lkp _ x y => x.slots ++ y.slots
  | .mkmap _ => []
  | .never => []
  | .mup x y z => x.slots ++ (y.slots ++ z.slots)
  | .ivk _ x xs => x.slots ++ xsSlots xs
  | .mkfn _ xs ys => xsSlots xs ++ xsSlots ys
  | .slc _ x a b d => x.slots ++ (oxSlots a ++ (oxSlots b ++ oxSlots d))
  | .call _ xs => xsSlots xs
  | .callv x xs => x.slots ++ xsSlots xs
def I.slots (i : I) : List Nat := (match i.g with | some (s, _) => [s] | none => []) ++ i.op.slots
structure Cmp (c : Ctx) (ops : Array Oper) (o : Oper) (i : I) : Prop where
  dst : o.dst = i.dst
  lt : ∀ d, i.dst = some d → d < c.nt
  op : cOp c.P o = some i.op
  mkk : makes i.op = true → i.dst.isSome = true
  st : isStore i.op = true → i.dst = none
  gd : match o.guard with
    | none => i.g = none
    | some (j, want) => ∃ s, (ops[j]?).bind (·.dst) = some s ∧ i.g = some (s, want)
def Valid (c : Ctx) (i : I) (st : St) (s : Stp) : Prop :=
  ∀ (st1 : St), (∀ k, k ∈ i.slots → get st1.env k = get st.env k) → (∀ k, k ∈ s.rd → own? st1.own k = own? st.own k) → (∀ k, k ∈ s.new → k ∉ st1.nm) →
    ∀ (ops : Array Oper) (o : Oper), Cmp c ops o i → ∀ (β : Names) (a : Act) (w : World), Holds c β st1 a w → ∀ (Q : Exit → Act → World → Prop) (K : Act → World → Prop),
      (∀ β' a' w', Holds c β' (st1.stp i.dst s) a' w' → K a' w') →
      if Region.wanted o (yielded ops a.tmps) then o.wpIn c.F 0 c.P a w K Q else K (a.put o.dst undef) w
inductive Trace (c : Ctx) : St → List I → List Stp → St → Prop where
  | nil (st : St) : Trace c st [] [] st
  | cons (st : St) (i : I) (s : Stp) (is : List I) (ss : List Stp) (st' : St) (hv : Valid c i st s) (hn : ∀ k, k ∈ s.new → k ∉ st.nm) (h : Trace c (st.stp i.dst s) is ss st') : Trace c st (i :: is) (s :: ss) st'
def Wk (c : Ctx) (a b : St) : Prop := ∀ β f w, Holds c β a f w → ∃ β', Holds c β' b f w
inductive Walk (c : Ctx) (K : St → Prop) : List I → St → Prop where
  | nil (st : St) (h : K st) : Walk c K [] st
  | cons (st : St) (i : I) (s : Stp) (is : List I) (hv : Valid c i st s) (hn : ∀ k, k ∈ s.new → k ∉ st.nm) (h : Walk c K is (st.stp i.dst s)) : Walk c K (i :: is) st
  | wk (st st1 : St) (is : List I) (hw : Wk c st st1) (h : Walk c K is st1) : Walk c K is st
def TR (c : Ctx) (b : Bool) (is : List I) (st : St) (acc : List Lg) (K : List Lg → St → Prop) : Prop :=
  match b with
  | true => ∃ ss st', Trace c st is ss st' ∧ K (acc ++ ss.map Stp.lg) st'
  | false => Walk c (K acc) is st
theorem TR.nil {c : Ctx} {b : Bool} {st : St} {acc : List Lg} {K : List Lg → St → Prop} (h : K acc st) : TR c b [] st acc K := by
  cases b with
  | true => exact ⟨[], st, .nil st, by simpa using h⟩
  | false => exact Walk.nil st h
def lgs (b : Bool) (acc : List Lg) (x : Lg) : List Lg := if b then acc ++ [x] else acc
theorem TR.cons {c : Ctx} {b : Bool} {i : I} {is : List I} {st : St} {acc : List Lg} {K : List Lg → St → Prop} (s : Stp) (hv : Valid c i st s) (hn : ∀ k, k ∈ s.new → k ∉ st.nm) (h : TR c b is (st.stp i.dst s) (lgs b acc s.lg) K) : TR c b (i :: is) st acc K := by
  cases b with
  | true =>
    obtain ⟨ss, st', h1, h2⟩ := h
    exact ⟨s :: ss, st', .cons _ _ _ _ _ _ hv hn h1, by simpa [lgs] using h2⟩
  | false => exact Walk.cons _ _ _ _ hv hn h
theorem TR.wk {c : Ctx} {is : List I} {st : St} (st1 : St) {acc : List Lg} {K : List Lg → St → Prop} (hw : Wk c st st1) (h : TR c false is st1 acc K) : TR c false is st acc K := Walk.wk _ _ _ hw h
theorem Walk.mono {c : Ctx} {K K' : St → Prop} (hk : ∀ st, K st → K' st) {is : List I} {st : St} (h : Walk c K is st) : Walk c K' is st := by
  induction h with
  | nil st h => exact .nil st (hk st h)
  | cons st i s is hv hn _ ih => exact .cons st i s is hv hn ih
  | wk st st1 is hw _ ih => exact .wk st st1 is hw ih
theorem TR.mono {c : Ctx} {b : Bool} {is : List I} {st : St} {acc : List Lg} {K K' : List Lg → St → Prop} (hk : ∀ acc st, K acc st → K' acc st) (h : TR c b is st acc K) : TR c b is st acc K' := by
  cases b with
  | true =>
    obtain ⟨ss, st', h1, h2⟩ := h
    exact ⟨ss, st', h1, hk _ _ h2⟩
  | false => exact Walk.mono (fun st h => hk _ st h) h
theorem wp_walk {c : Ctx} {ops : Array Oper} {Q : Exit → Act → World → Prop} {K : St → Prop} (hQ : ∀ st', K st' → ∀ β a w, Holds c β st' a w → Q .normal a w) :
    ∀ {is : List I} {st : St}, Walk c K is st → ∀ {l : List Oper}, l.length = is.length → (∀ (j : Nat) (o : Oper) (i : I), l[j]? = some o → is[j]? = some i → Cmp c ops o i) →
      ∀ (β : Names) (a : Act) (w : World), Holds c β st a w → wpListIn c.F 0 c.P ops Q l a w := by
  intro is st h
  induction h with
  | nil st hk =>
    intro l hl _ β a w H
    have : l = [] := List.eq_nil_of_length_eq_zero (by simpa using hl)
    subst this
    exact hQ st hk β a w H
  | cons st i s is hv hn _ ih =>
    intro l hl hc β a w H
    cases l with
    | nil => simp at hl
    | cons o l =>
      have h1 := hv st (fun _ _ => rfl) (fun _ _ => rfl) hn ops o (hc 0 o i rfl rfl) β a w H Q
      refine wpListIn_step fun K hK => ?_
      have h2 := h1 K fun β' a' w' H' => hK a' w' (ih (by simpa using hl) (fun j o i ho hi => hc (j + 1) o i (by simpa using ho) (by simpa using hi)) β' a' w' H')
      by_cases hw : Region.wanted o (yielded ops a.tmps) = true
      · rw [if_pos hw] at h2 ⊢; exact h2
      · rw [if_neg hw] at h2 ⊢; exact ⟨fun _ _ => trivial, h2⟩
  | wk st st1 is hw _ ih =>
    intro l hl hc β a w H
    obtain ⟨β1, H1⟩ := hw β a w H
    exact ih hl hc β1 a w H1
theorem run_defer {P : Program} {o : Oper} {ρ : Operand → Value} {cl : Call} (h : o.op = .defer cl) {w w' : World} {x : Next} (hr : (execOp ρ o).run P w = .ok x w') : ∃ d, x = .defer d := by
  simp only [execOp, h, Sem.run_bind] at hr
  cases hd : (resolve ρ cl o.type).run P w with
  | ok d w1 => rw [hd] at hr; simp [Result.andThen] at hr; exact ⟨d, hr.1.symm⟩
  | halt y w1 => rw [hd] at hr; simp [Result.andThen] at hr
theorem Oper.wpc_ok {c : Ctx} {o : Oper} {a : Act} {w : World} {K : Act → World → Prop} {Q : Exit → Act → World → Prop} {x : Next} {w' : World} (h : (execOp a.eval o).run c.P w = .ok x w') (hx : ∀ d, x ≠ .defer d)
    (hk : o.uponIn c.F 0 c.P a K Q (.ok x w')) : o.wpIn c.F 0 c.P a w K Q := by
  refine ⟨fun _ _ => trivial, ?_⟩
  rw [Oper.semAt_eq c.F.round a.eval o (fun cl e => by obtain ⟨d, hd⟩ := run_defer e h; exact hx d hd), h]
  exact hk
theorem Oper.wp_ok {c : Ctx} {o : Oper} {a : Act} {w : World} {K : Act → World → Prop} {Q : Exit → Act → World → Prop} {v : Value} {w' : World}
    (h : (execOp a.eval o).run c.P w = .ok (.value v) w' ∨ ((execOp a.eval o).run c.P w = .ok .skip w' ∧ v = undef)) (hk : K (a.put o.dst v) w') : o.wpIn c.F 0 c.P a w K Q := by
  rcases h with h | ⟨h, rfl⟩
  · exact Oper.wpc_ok h (fun d => by simp) hk
  · exact Oper.wpc_ok h (fun d => by simp) hk
theorem Oper.wpc_enter {c : Ctx} {o : Oper} {a : Act} {w : World} {K : Act → World → Prop} {Q : Exit → Act → World → Prop} {f : FuncId} {args : Array Value} {w' : World}
    (h : (execOp a.eval o).run c.P w = .ok (.enter f args) w') (hk : Calls c.P f args w' fun | .returned v, w'' => K (a.put o.dst v) w'' | .panicked chain, w'' => Q (.panic chain) a w'' | .outgrown, _ => LetsOut Q) : o.wpIn c.F 0 c.P a w K Q :=
  Oper.wpc_ok h (fun d => by simp) ⟨fun h => by simp [Ctx.F, Fence.wide] at h, (callsIn_wide (n := 0)).2 hk⟩
section congr
variable {st st1 : St}
theorem evX_congr {x : X} (h : ∀ k, k ∈ x.slots → get st1.env k = get st.env k) : evX st1 x = evX st x := by
  cases x with
  | t s => exact h s (by simp [X.slots])
  | k v => rfl
theorem evV_congr {x : X} (h : ∀ k, k ∈ x.slots → get st1.env k = get st.env k) : evV st1 x = evV st x := by unfold evV; rw [evX_congr h]
theorem evS_congr {p : Bool} {x : X} (h : ∀ k, k ∈ x.slots → get st1.env k = get st.env k) : evS p st1 x = evS p st x := by unfold evS; rw [evX_congr h]
theorem evVs_congr : ∀ {xs : List X}, (∀ k, k ∈ xsSlots xs → get st1.env k = get st.env k) → evVs st1 xs = evVs st xs
  | [], _ => rfl
  | x :: xs, h => by
    simp only [evVs]
    rw [evV_congr (fun k hk => h k (by simp [xsSlots, hk])), evVs_congr (fun k hk => h k (by simp [xsSlots, hk]))]
theorem evSs_congr {p : Bool} : ∀ {xs : List X}, (∀ k, k ∈ xsSlots xs → get st1.env k = get st.env k) → evSs p st1 xs = evSs p st xs
  | [], _ => rfl
  | x :: xs, h => by
    simp only [evSs]
    rw [evS_congr (fun k hk => h k (by simp [xsSlots, hk])), evSs_congr (fun k hk => h k (by simp [xsSlots, hk]))]
theorem evParts_congr : ∀ {ps : List (Nat × Nat × X)}, (∀ k, k ∈ xsSlots (ps.map (·.2.2)) → get st1.env k = get st.env k) → evParts st1 ps = evParts st ps
  | [], _ => rfl
  | (a, b, x) :: ps, h => by
    simp only [evParts]
    rw [evV_congr (fun k hk => h k (by simp [xsSlots, hk])), evParts_congr (fun k hk => h k (by simp only [List.map_cons, xsSlots, List.mem_append]; exact .inr hk))]
theorem evPartsS_congr {p : Bool} : ∀ {ps : List (Nat × Nat × X)}, (∀ k, k ∈ xsSlots (ps.map (·.2.2)) → get st1.env k = get st.env k) → evPartsS p st1 ps = evPartsS p st ps
  | [], _ => rfl
  | (a, b, x) :: ps, h => by
    simp only [evPartsS]
    rw [evS_congr (fun k hk => h k (by simp [xsSlots, hk])), evPartsS_congr (fun k hk => h k (by simp only [List.map_cons, xsSlots, List.mem_append]; exact .inr hk))]
end congr
theorem opR_congr {st st1 : St} {p : Bool} {d : Nat} {q : O} (hq : isCall q = false) (hs : (opR st p d q).side) (h : ∀ k, k ∈ q.slots → get st1.env k = get st.env k) (hr : ∀ k, k ∈ (opR st p d q).rd → own? st1.own k = own? st.own k)
    (hn : makes q = true → d ∉ st1.nm) : (opR st1 p d q).side ∧ (opR st1 p d q).val = (opR st p d q).val ∧ (opR st1 p d q).upd = (opR st p d q).upd ∧ (opR st1 p d q).rd = (opR st p d q).rd := by
  cases q <;> simp only [isCall] at hq <;> (try cases hq) <;> simp only [O.slots, List.mem_append] at h
  case mov x =>
    simp only [opR] at *
    rw [evV_congr h, evS_congr h]; exact ⟨hs, by simp⟩
  case pick x y z =>
    have h1 : ∀ k, k ∈ x.slots → get st1.env k = get st.env k := fun k hk => h k (.inl hk)
    have h2 : ∀ k, k ∈ y.slots → get st1.env k = get st.env k := fun k hk => h k (.inr (.inl hk))
    have h3 : ∀ k, k ∈ z.slots → get st1.env k = get st.env k := fun k hk => h k (.inr (.inr hk))
    simp only [opR] at hs ⊢
    simp only [evV_congr h1, evV_congr h2, evV_congr h3, evS_congr h1, evS_congr h2, evS_congr h3]
    exact ⟨hs, by simp⟩
  case alloc e cs => simp only [opR] at *; exact ⟨hn rfl, by simp⟩
  case box e x =>
    simp only [opR] at hs ⊢
    simp only [evV_congr h, evS_congr h]
    split at hs
    · exact ⟨⟨hs.1, hn rfl⟩, by simp⟩
    · exact hs.elim
  case build z ps =>
    simp only [opR] at hs ⊢
    simp only [evParts_congr h, evPartsS_congr h]
    exact ⟨hs, by simp⟩
  case bslice e sz len xs =>
    simp only [opR] at hs ⊢
    simp only [evVs_congr h, evSs_congr h]
    split at hs
    · split at hs
      · exact ⟨⟨hs.1, hn rfl⟩, by simp⟩
      · exact ⟨⟨hs.1, hs.2.1, hn rfl⟩, by simp⟩
    · exact hs.elim
  case load sz agg x =>
    simp only [opR] at hs hr ⊢
    simp only [evV_congr h, evS_congr h]
    split at hs
    · rename_i cs h1
      simp only [h1] at hr ⊢
      exact ⟨hs, by simp⟩
    · rename_i k off h1
      simp only [h1] at hr ⊢
      split at hs
      · rename_i cs h2
        simp only [h2] at hr
        rw [hr k (by simp), h2]
        exact ⟨hs, by simp⟩
      · exact hs.elim
    · rename_i k sz' i off h1
      simp only [h1] at hr ⊢
      split at hs
      · rename_i e0 sz2 n f h2
        simp only [h2] at hr
        rw [hr k (by simp), h2]
        exact ⟨hs, by simp⟩
      · rename_i e1 sz2 n cs h2
        simp only [h2] at hr
        rw [hr k (by simp), h2]
        exact ⟨hs, by simp⟩
      · exact hs.elim
    · exact hs.elim
  case store sz x y =>
    have h1 : ∀ k, k ∈ x.slots → get st1.env k = get st.env k := fun k hk => h k (.inl hk)
    have h2 : ∀ k, k ∈ y.slots → get st1.env k = get st.env k := fun k hk => h k (.inr hk)
    simp only [opR] at hs hr ⊢
    simp only [evV_congr h1, evV_congr h2, evS_congr h1, evS_congr h2]
    split at hs
    · rename_i k off ys g1 g2
      simp only [g1, g2] at hr ⊢
      split at hs
      · rename_i cs g3
        simp only [g3] at hr
        rw [hr k (by simp), g3]
        exact ⟨hs, by simp⟩
      · exact hs.elim
    · rename_i k sz' i off ys g1 g2
      simp only [g1, g2] at hr ⊢
      split at hs
      · rename_i e0 sz2 n f ds g3 g4
        simp only [g3, g4] at hr
        rw [hr k (by simp), g3]
        simp only [g4]
        exact ⟨hs, by simp⟩
      · rename_i e1 sz2 n cs g3
        simp only [g3] at hr
        rw [hr k (by simp), g3]
        exact ⟨hs, by simp⟩
      · exact hs.elim
    · exact hs.elim
  case iadr sz x i =>
    have h1 : ∀ k, k ∈ x.slots → get st1.env k = get st.env k := fun k hk => h k (.inl hk)
    have h2 : ∀ k, k ∈ i.slots → get st1.env k = get st.env k := fun k hk => h k (.inr hk)
    simp only [opR] at hs hr ⊢
    simp only [evV_congr h1, evV_congr h2, evS_congr h1, evS_congr h2]
    split at hs
    · rename_i g1 g2
      simp only [g1, g2] at hr ⊢
      exact ⟨hs, by simp⟩
    · rename_i k kk m g1 g2
      simp only [g1, g2] at hr ⊢
      split at hs
      · rename_i g3
        simp only [g3] at hr
        rw [hr k (by simp), g3]
        exact ⟨hs, by simp⟩
      · rename_i g3
        simp only [g3] at hr
        rw [hr k (by simp), g3]
        exact ⟨hs, by simp⟩
      · exact hs.elim
    · rename_i g1 g2
      simp only [g1, g2] at hr ⊢
      exact ⟨hs, by simp⟩
    · exact hs.elim
  case len x =>
    simp only [opR] at hs hr ⊢
    simp only [evV_congr h, evS_congr h]
    split at hs
    · rename_i g1
      simp only [g1] at hr ⊢
      exact ⟨hs, by simp⟩
    · rename_i k g1
      simp only [g1] at hr ⊢
      split at hs
      · rename_i g3
        simp only [g3] at hr
        rw [hr k (by simp), g3]
        exact ⟨hs, by simp⟩
      · rename_i g3
        simp only [g3] at hr
        rw [hr k (by simp), g3]
        exact ⟨hs, by simp⟩
      · exact hs.elim
    · rename_i g1
      simp only [g1] at hr ⊢
      exact ⟨hs, by simp⟩
    · exact hs.elim
  case app e sz bytes x y =>
    have h1 : ∀ k, k ∈ x.slots → get st1.env k = get st.env k := fun k hk => h k (.inl hk)
    have h2 : ∀ k, k ∈ y.slots → get st1.env k = get st.env k := fun k hk => h k (.inr hk)
    have hn := hn rfl
    simp only [opR] at hs hr ⊢
    simp only [evV_congr h1, evV_congr h2, evS_congr h1, evS_congr h2]
    split at hs
    · rename_i k fl sz2 m g g1 g2
      simp only [g1, g2] at hr ⊢
      split at hs
      · rename_i g3
        simp only [g3] at hr
        rw [hr k (by simp), g3]
        obtain ⟨a1, a2, a3, a4, a5, a6, a7, _⟩ := hs
        exact ⟨⟨a1, a2, a3, a4, a5, a6, a7, hn⟩, by simp⟩
      · rename_i g3
        simp only [g3] at hr
        rw [hr k (by simp), g3]
        obtain ⟨a1, a2, a3, a4, a5, a6, a7, _⟩ := hs
        exact ⟨⟨a1, a2, a3, a4, a5, a6, a7, hn⟩, by simp⟩
      · exact hs.elim
    · rename_i g1 g2
      simp only [g1, g2] at hr ⊢
      obtain ⟨a1, a2, a3, a4, a5, a6, a7, _⟩ := hs
      exact ⟨⟨a1, a2, a3, a4, a5, a6, a7, hn⟩, by simp⟩
    · rename_i k k2 g1 g2
      simp only [g1, g2] at hr ⊢
      split at hs
      · rename_i g3 g4
        simp only [g3, g4] at hr
        split at hs
        · rename_i ds g5
          simp only [g5] at hr
          rw [hr k (by simp), hr k2 (by simp), g3, g4]
          simp only [g5]
          obtain ⟨a1, a2, a3, a4, a5, a6, a7, a8, _⟩ := hs
          exact ⟨⟨a1, a2, a3, a4, a5, a6, a7, a8, hn⟩, by simp⟩
        · exact hs.elim
      · rename_i g3 g4
        simp only [g3, g4] at hr
        rw [hr k (by simp), hr k2 (by simp), g3, g4]
        obtain ⟨a1, a2, a3, a4, a5, a6, a7, a8, a9, _⟩ := hs
        exact ⟨⟨a1, a2, a3, a4, a5, a6, a7, a8, a9, hn⟩, by simp⟩
      · exact hs.elim
    · rename_i k2 g1 g2
      simp only [g1, g2] at hr ⊢
      split at hs
      · rename_i g4
        simp only [g4] at hr
        split at hs
        · rename_i ds g5
          simp only [g5] at hr
          rw [hr k2 (by simp), g4]
          simp only [g5]
          obtain ⟨a1, a2, a3, a4, a5, a6, a7, a8, _⟩ := hs
          exact ⟨⟨a1, a2, a3, a4, a5, a6, a7, a8, hn⟩, by simp⟩
        · exact hs.elim
      · rename_i g4
        simp only [g4] at hr
        rw [hr k2 (by simp), g4]
        obtain ⟨a1, a2, a3, a4, a5, a6, a7, a8, _⟩ := hs
        exact ⟨⟨a1, a2, a3, a4, a5, a6, a7, a8, hn⟩, by simp⟩
      · exact hs.elim
    · exact hs.elim
  case mkfn f xs ys =>
    have h1 : ∀ k, k ∈ xsSlots xs → get st1.env k = get st.env k := fun k hk => h k (.inl hk)
    have h2 : ∀ k, k ∈ xsSlots ys → get st1.env k = get st.env k := fun k hk => h k (.inr hk)
    simp only [opR] at hs ⊢
    simp only [evVs_congr h1, evVs_congr h2, evSs_congr h1, evSs_congr h2]
    exact ⟨hs, by simp⟩
  case mks e sz bytes z x y =>
    have h1 : ∀ k, k ∈ x.slots → get st1.env k = get st.env k := fun k hk => h k (.inl hk)
    have h2 : ∀ k, k ∈ y.slots → get st1.env k = get st.env k := fun k hk => h k (.inr hk)
    have hn := hn rfl
    simp only [opR] at hs ⊢
    simp only [evV_congr h1, evV_congr h2, evS_congr h1, evS_congr h2]
    split at hs
    · obtain ⟨a1, a2, a3, a4, a5, a6, _⟩ := hs
      exact ⟨⟨a1, a2, a3, a4, a5, a6, hn⟩, by simp⟩
    · exact hs.elim
  case slc sz x lo hi mx =>
    have h1 : ∀ k, k ∈ x.slots → get st1.env k = get st.env k := fun k hk => h k (.inl hk)
    have ho : ∀ (y : Option X), (∀ k, k ∈ oxSlots y → get st1.env k = get st.env k) → y.map (evV st1) = y.map (evV st) ∧ ∀ z, y = some z → evS p st1 z = evS p st z := fun y hy => by
      cases y with
      | none => exact ⟨rfl, fun z hz => by cases hz⟩
      | some z =>
        have hz : ∀ k, k ∈ z.slots → get st1.env k = get st.env k := fun k hk => hy k (by simpa [oxSlots] using hk)
        exact ⟨by simp [evV_congr hz], fun z' e => by cases e; exact evS_congr hz⟩
    obtain ⟨l1, l2⟩ := ho lo (fun k hk => h k (.inr (.inl hk)))
    obtain ⟨m1, m2⟩ := ho hi (fun k hk => h k (.inr (.inr (.inl hk))))
    obtain ⟨n1, n2⟩ := ho mx (fun k hk => h k (.inr (.inr (.inr hk))))
    have k1 : (∀ h, lo = some h → evS p st1 h) = (∀ h, lo = some h → evS p st h) := propext ⟨fun q z hz => l2 z hz ▸ q z hz, fun q z hz => (l2 z hz).symm ▸ q z hz⟩
    have k2 : (∀ h, hi = some h → evS p st1 h) = (∀ h, hi = some h → evS p st h) := propext ⟨fun q z hz => m2 z hz ▸ q z hz, fun q z hz => (m2 z hz).symm ▸ q z hz⟩
    have k3 : (∀ h, mx = some h → evS p st1 h) = (∀ h, mx = some h → evS p st h) := propext ⟨fun q z hz => n2 z hz ▸ q z hz, fun q z hz => (n2 z hz).symm ▸ q z hz⟩
    simp only [opR] at hs hr ⊢
    simp only [evV_congr h1, evS_congr h1, l1, m1, n1, k1, k2, k3]
    split at hs
    · rename_i g1 g2 g3 g4
      simp only [g1, g2, g3, g4] at hr ⊢
      exact ⟨hs, by simp⟩
    · rename_i g1 g2 g3 g4
      simp only [g1, g2, g3, g4] at hr ⊢
      exact ⟨hs, by simp⟩
    · rename_i g1 g2 g3 g4
      simp only [g1, g2, g3, g4] at hr ⊢
      exact ⟨hs, by simp⟩
    · rename_i k ka aa g1 g2 g3 g4
      simp only [g1, g2, g3, g4] at hr ⊢
      split at hs
      · rename_i g5
        simp only [g5] at hr
        rw [hr k (by simp), g5]
        exact ⟨hs, by simp⟩
      · exact hs.elim
    · rename_i k ka aa g1 g2 g3 g4
      simp only [g1, g2, g3, g4] at hr ⊢
      split at hs
      · rename_i g5
        simp only [g5] at hr
        rw [hr k (by simp), g5]
        exact ⟨hs, by simp⟩
      · exact hs.elim
    · exact hs.elim
  case cpy sz x y =>
    have h1 : ∀ k, k ∈ x.slots → get st1.env k = get st.env k := fun k hk => h k (.inl hk)
    have h2 : ∀ k, k ∈ y.slots → get st1.env k = get st.env k := fun k hk => h k (.inr hk)
    simp only [opR] at hs hr ⊢
    simp only [evV_congr h1, evV_congr h2, evS_congr h1, evS_congr h2]
    split at hs
    · rename_i k fl sz2 m g g1 g2
      simp only [g1, g2] at hr ⊢
      split at hs
      · rename_i g3
        simp only [g3] at hr
        rw [hr k (by simp), g3]
        exact ⟨hs, by simp⟩
      · exact hs.elim
    · rename_i k sz1 lo n k2 sz2 lo2 m g1 g2
      simp only [g1, g2] at hr ⊢
      split at hs
      · rename_i g3
        simp only [g3] at hr
        rw [hr k (by simp), g3]
        exact ⟨hs, by simp⟩
      · exact hs.elim
    · exact hs.elim
  case mkmap z => simp only [opR] at *; exact ⟨hn rfl, by simp⟩
  case never => simp only [opR, Ef.bad] at hs
  case apz e sz bytes z x y =>
    have h1 : ∀ k, k ∈ x.slots → get st1.env k = get st.env k := fun k hk => h k (.inl hk)
    have h2 : ∀ k, k ∈ y.slots → get st1.env k = get st.env k := fun k hk => h k (.inr hk)
    have hn := hn rfl
    simp only [opR] at hs ⊢
    simp only [evV_congr h1, evV_congr h2, evS_congr h1, evS_congr h2]
    split at hs
    · obtain ⟨a1, a2, a3, a4, a5, _⟩ := hs
      exact ⟨⟨a1, a2, a3, a4, a5, hn⟩, by simp⟩
    · exact hs.elim
  case isnil neg x =>
    simp only [opR] at hs hr ⊢
    simp only [evV_congr h, evS_congr h]
    split at hs
    · rename_i g1
      simp only [g1] at hr ⊢
      exact ⟨hs, by simp⟩
    · rename_i k g1
      simp only [g1] at hr ⊢
      split at hs
      · rename_i g3
        simp only [g3] at hr
        rw [hr k (by simp), g3]
        exact ⟨hs, by simp⟩
      · exact hs.elim
    · exact hs.elim
  case lkp z x y =>
    have h1 : ∀ k, k ∈ x.slots → get st1.env k = get st.env k := fun k hk => h k (.inl hk)
    have h2 : ∀ k, k ∈ y.slots → get st1.env k = get st.env k := fun k hk => h k (.inr hk)
    simp only [opR] at hs hr ⊢
    simp only [evV_congr h1, evV_congr h2, evS_congr h1, evS_congr h2]
    split at hs
    · rename_i k kk n g1 g2
      simp only [g1, g2] at hr ⊢
      split at hs
      · rename_i g3
        simp only [g3] at hr
        rw [hr k (by simp), g3]
        exact ⟨hs, by simp⟩
      · exact hs.elim
    · exact hs.elim
  case mup x y z =>
    have h1 : ∀ k, k ∈ x.slots → get st1.env k = get st.env k := fun k hk => h k (.inl hk)
    have h2 : ∀ k, k ∈ y.slots → get st1.env k = get st.env k := fun k hk => h k (.inr (.inl hk))
    have h3 : ∀ k, k ∈ z.slots → get st1.env k = get st.env k := fun k hk => h k (.inr (.inr hk))
    simp only [opR] at hs hr ⊢
    simp only [evV_congr h1, evV_congr h2, evV_congr h3, evS_congr h1, evS_congr h2, evS_congr h3]
    split at hs
    · rename_i k kk n y' g1 g2 g4
      simp only [g1, g2, g4] at hr ⊢
      split at hs
      · rename_i g3
        simp only [g3] at hr
        rw [hr k (by simp), g3]
        exact ⟨hs, by simp⟩
      · exact hs.elim
    · exact hs.elim
  case mkifc t x =>
    simp only [opR] at hs ⊢
    simp only [evV_congr h, evS_congr h]
    exact ⟨hs, by simp⟩
  all_goals first
    | (simp only [opR] at hs ⊢
       simp only [evV_congr h, evS_congr h]
       exact ⟨hs, by simp⟩)
    | (rename_i x y
       have h1 : ∀ k, k ∈ x.slots → get st1.env k = get st.env k := fun k hk => h k (.inl hk)
       have h2 : ∀ k, k ∈ y.slots → get st1.env k = get st.env k := fun k hk => h k (.inr hk)
       simp only [opR] at hs ⊢
       simp only [evV_congr h1, evV_congr h2, evS_congr h1, evS_congr h2]
       exact ⟨hs, by simp⟩)
end Go.Bx
end
section
set_option linter.unusedSimpArgs false
set_option linter.unusedVariables false
namespace Go.Bx
open Go.RowKit
theorem makes_upd {st : St} {p : Bool} {d : Nat} {q : O} (hs : (opR st p d q).side) (hm : makes q = true) : d ∉ st.nm := by
  cases q <;> simp only [makes] at hm <;> (try cases hm) <;> simp only [opR] at hs <;> (repeat' split at hs) <;> simp_all [Ef.bad]
def Ef.stp (e : Ef) (new : List Nat) : Stp := { val := e.val, upd := e.upd, rd := e.rd, new := new }
def newOf (q : O) (d : Nat) : List Nat := if makes q then [d] else []
section
variable {c : Ctx}
theorem gslots_op {d : Option Nat} {g : Option (Nat × Bool)} {q : O} : ∀ k, k ∈ q.slots → k ∈ (I.slots ⟨d, g, q⟩) := fun k hk => by simp [I.slots, hk]
theorem valid_op {d : Option Nat} {q : O} {st : St} (hq : isCall q = false) (hs : (opR st true (d.getD 0) q).side) : Valid c ⟨d, none, q⟩ st ((opR st true (d.getD 0) q).stp (newOf q (d.getD 0))) := by
  intro st1 h1 h2 h3 ops o hc β a w H Q K hK
  have hcg := hc.gd
  have hg : o.guard = none := by
    cases hg : o.guard with
    | none => rfl
    | some jw => simp only [hg] at hcg; obtain ⟨s, _, h⟩ := hcg; cases h
  rw [if_pos (by simp [Region.wanted, hg])]
  have hn : makes q = true → d.getD 0 ∉ st1.nm := fun hm => h3 _ (by simp [Ef.stp, newOf, hm])
  obtain ⟨g1, g2, g3, g4⟩ := opR_congr hq hs (fun k hk => h1 k (gslots_op k hk)) h2 hn
  have hdst := hc.dst
  obtain ⟨v, w', β', hr, _, H'⟩ := op_ok hc.op H (fun d hd => hc.lt d (hdst ▸ hd)) (fun hm => hdst ▸ hc.mkk hm) (fun hm => hdst ▸ hc.st hm) hq (by rw [hdst]; exact g1)
  refine Oper.wp_ok hr (hK β' _ w' ?_)
  simp only at hdst
  rw [hdst] at H' ⊢
  simpa [St.app, St.stp, Ef.stp, g2, g3] using H'
def gOf (env : List (Nat × V)) (s : Nat) (want : Bool) : Option Bool :=
  match get env s with
  | .d (.bool b) => some (if want then b else !b)
  | .gd g (.d (.bool b)) => some (g && (if want then b else !b))
  | _ => none
theorem wanted_ok {β : Names} {st : St} {a : Act} {w : World} (H : Holds c β st a w) {ops : Array Oper} {o : Oper} {j s : Nat} {want gc : Bool} (hg : o.guard = some (j, want)) (hj : (ops[j]?).bind (·.dst) = some s) (h : gOf st.env s want = some gc) :
    Region.wanted o (yielded ops a.tmps) = gc := by
  have hr := H.env s
  have hy : ∀ b, a.tmps.getD s undef = .bool b → yielded ops a.tmps j = some b := fun b hb => by
    unfold yielded
    rw [hj]
    have : a.tmps[s]? = some (.bool b) := by
      simp only [Array.getD_eq_getD_getElem?] at hb
      cases h2 : a.tmps[s]? with
      | none => simp [h2, undef] at hb
      | some v => simp [h2] at hb; rw [hb]
    simp [this]
  have hn : a.tmps.getD s undef = undef → yielded ops a.tmps j = none := fun hb => by
    unfold yielded
    rw [hj]
    simp only [Array.getD_eq_getD_getElem?] at hb
    cases h2 : a.tmps[s]? with
    | none => simp [h2]
    | some v => simp [h2, undef] at hb; subst hb; simp [h2]
  unfold gOf at h
  unfold Region.wanted
  rw [hg]
  simp only
  generalize a.tmps.getD s undef = u at *
  split at h
  · rename_i b hb
    rw [hb] at hr
    rw [hy b (rel_bool hr)]
    simp at h
    subst h
    cases want <;> cases b <;> rfl
  · rename_i g b hb
    rw [hb] at hr
    simp at h
    subst h
    cases hr with
    | gd _ _ _ q1 q2 =>
      cases g with
      | true =>
        rw [hy b (rel_bool (q1 rfl))]
        cases want <;> cases b <;> rfl
      | false =>
        rw [hn (q2 rfl)]
        rfl
  · cases h
theorem valid_gd {d : Option Nat} {s : Nat} {want gc : Bool} {q : O} {st : St} (hq : isCall q = false) (hg : gOf st.env s want = some gc) (hs : gc = true → (opR st gc (d.getD 0) q).side) (hu : (opR st true (d.getD 0) q).upd = []) :
    Valid c ⟨d, some (s, want), q⟩ st { val := .gd gc (opR st true (d.getD 0) q).val, upd := [], rd := (opR st true (d.getD 0) q).rd, new := newOf q (d.getD 0) } := by
  intro st1 h1 h2 h3 ops o hc β a w H Q K hK
  have hcg := hc.gd
  obtain ⟨j, hgo, hj⟩ : ∃ j, o.guard = some (j, want) ∧ (ops[j]?).bind (·.dst) = some s := by
    cases hgo : o.guard with
    | none => simp only [hgo] at hcg; cases hcg
    | some jw =>
      obtain ⟨j, w'⟩ := jw
      simp only [hgo] at hcg
      obtain ⟨s', hs', e⟩ := hcg
      injection e with e; injection e with e1 e2
      exact ⟨j, by rw [e2], by rw [hs', e1]⟩
  have hg1 : gOf st1.env s want = some gc := by
    unfold gOf at hg ⊢
    rw [h1 s (by simp [I.slots])]
    exact hg
  have hw := wanted_ok H hgo hj hg1
  rw [hw]
  have hdst := hc.dst
  simp only at hdst
  cases gc with
  | true =>
    rw [if_pos rfl]
    obtain ⟨g1, g2, g3, g4⟩ := opR_congr (st1 := st1) hq (hs rfl) (fun k hk => h1 k (gslots_op k hk)) h2 (fun hm => h3 _ (by simp [newOf, hm]))
    obtain ⟨v, w', β', hr, _, H'⟩ := op_ok hc.op H (fun d hd => hc.lt d (hdst ▸ hd)) (fun hm => hdst ▸ hc.mkk hm) (fun hm => hdst ▸ hc.st hm) hq (by rw [hdst]; exact g1)
    refine Oper.wp_ok hr (hK β' _ w' ?_)
    rw [hdst] at H' ⊢
    simp only [St.app, g2, g3, hu, applyU, newN] at H'
    simp only [St.stp, applyU, newN]
    cases d with
    | none => exact H'
    | some d' =>
      simp only [setE] at H' ⊢
      refine ⟨H'.sz, H'.df, fun s' => ?_, H'.own, H'.fr, H'.kn, H'.nm, H'.kp, H'.fx⟩
      have h5 := H'.env s'
      simp only [get] at h5 ⊢
      split
      · rename_i e
        rw [if_pos e] at h5
        exact .gd _ _ _ (fun _ => h5) (fun h => by cases h)
      · rename_i e
        rw [if_neg e] at h5
        exact h5
  | false =>
    rw [if_neg (by simp)]
    refine hK β _ w ?_
    rw [hdst]
    simp only [St.stp, applyU, newN]
    cases d with
    | none => exact H
    | some d' => exact H.setV (hc.lt d' rfl) (.gd _ _ _ (fun h => by cases h) (fun _ => rfl))
end
end Go.Bx
end
section
set_option linter.unusedSimpArgs false
set_option linter.unusedVariables false
namespace Go.Bx
open Go.RowKit
def okF (P : Program) (f : FuncId) : Bool :=
  match P.funcs[f]? with
  | some fn => fn.name != "runtime.NumGoroutine" && fn.body.isSome
  | none => false
def Ctr (P : Program) (f : FuncId) (args : List V) (ins : List (Nat × Own)) (res : V) (outs : List (Nat × Own)) (new : List Nat) : Prop :=
  okF P f = true ∧ (∀ k, k ∈ keysO outs → k ∈ keysO ins ∨ k ∈ new) ∧ (∀ k, k ∈ new → k ∈ keysO outs) ∧
  ∀ (E0 : Nat → Prop) (β : Names) (w : World) (vals : Array Value), (∀ b, E0 b → b < w.heap.size) → vals.size = args.length →
    (∀ (j : Nat) (v : Value) (x : V), vals[j]? = some v → args[j]? = some x → RelV β (Eo E0 β ins) w v x) → OwnsOk E0 β w ins → (∀ k, k ∈ new → β k = none) →
    Calls P f vals w fun e w' => ∃ v β', e = .returned v ∧ β.le β' ∧ (∀ k, k ∉ new → β' k = β k) ∧ RelV β' (Eo E0 β' outs) w' v res ∧ OwnsOk E0 β' w' outs ∧ Keeps (ownB β ins) w w' ∧
      (∀ k, k ∈ keysO outs → ∀ b, β'.blk k = some b → w.heap.size ≤ b ∨ ownB β ins b)
theorem own?_setO (l : List (Nat × Own)) (k : Nat) (o : Own) (k1 : Nat) : own? (setO l k o) k1 = if k1 = k then some o else own? l k1 := by
  induction l with
  | nil =>
    simp only [setO, own?]
    by_cases h : k = k1
    · rw [if_pos h, if_pos h.symm]
    · rw [if_neg h, if_neg (fun e => h e.symm)]
  | cons p l ih =>
    obtain ⟨k', o'⟩ := p
    simp only [setO]
    by_cases h : k' = k
    · subst h
      rw [if_pos rfl]
      simp only [own?]
      by_cases h2 : k' = k1
      · subst h2; simp
      · rw [if_neg h2, if_neg (fun e => h2 e.symm), if_neg h2]
    · rw [if_neg h]
      simp only [own?, ih]
      by_cases h2 : k' = k1
      · subst h2; rw [if_pos rfl, if_neg h, if_pos rfl]
      · rw [if_neg h2, if_neg h2]
theorem own?_none {l : List (Nat × Own)} {k : Nat} (h : k ∉ keysO l) : own? l k = none := by
  cases he : own? l k with
  | none => rfl
  | some o => exact absurd (mem_keys (own?_mem he)) h
theorem own?_delO {l : List (Nat × Own)} (hn : (keysO l).Nodup) (k k1 : Nat) : own? (delO l k) k1 = if k1 = k then none else own? l k1 := by
  induction l with
  | nil => simp [delO, own?]
  | cons p l ih =>
    obtain ⟨k', o'⟩ := p
    simp only [keysO, List.map_cons, List.nodup_cons] at hn
    simp only [delO]
    by_cases h : k' = k
    · subst h
      rw [if_pos rfl]
      simp only [own?]
      by_cases h2 : k' = k1
      · subst h2; rw [if_pos rfl]; exact own?_none hn.1
      · rw [if_neg h2, if_neg (fun e => h2 e.symm)]
    · rw [if_neg h]
      simp only [own?, ih hn.2]
      by_cases h2 : k' = k1
      · subst h2; rw [if_pos rfl, if_neg h, if_pos rfl]
      · rw [if_neg h2, if_neg h2]
theorem key_iff {l : List (Nat × Own)} {k : Nat} : k ∈ keysO l ↔ ∃ o, own? l k = some o := by
  constructor
  · intro h
    induction l with
    | nil => simp [keysO] at h
    | cons p l ih =>
      obtain ⟨k', o'⟩ := p
      simp only [own?]
      by_cases e : k' = k
      · exact ⟨o', by rw [if_pos e]⟩
      · simp only [keysO, List.map_cons, List.mem_cons] at h
        obtain ⟨o, ho⟩ := ih (h.resolve_left (fun x => e x.symm))
        exact ⟨o, by rw [if_neg e]; exact ho⟩
  · rintro ⟨o, ho⟩
    exact mem_keys (own?_mem ho)
def callU (ins outs : List (Nat × Own)) : List (Nat × Option Own) := ins.map (fun p => (p.1, none)) ++ outs.map (fun p => (p.1, some p.2))
theorem nodup_applyU : ∀ (u : List (Nat × Option Own)) {l : List (Nat × Own)}, (keysO l).Nodup → (keysO (applyU l u)).Nodup
  | [], _, h => h
  | (_, some _) :: u, _, h => nodup_applyU u (nodup_setO h)
  | (_, none) :: u, _, h => nodup_applyU u (nodup_delO h)
theorem applyU_app : ∀ (u v : List (Nat × Option Own)) (l : List (Nat × Own)), applyU l (u ++ v) = applyU (applyU l u) v
  | [], _, _ => rfl
  | (_, some _) :: u, v, _ => applyU_app u v _
  | (_, none) :: u, v, _ => applyU_app u v _
theorem applyU_dels : ∀ (ins : List (Nat × Own)) {l : List (Nat × Own)}, (keysO l).Nodup → ∀ k, own? (applyU l (ins.map fun p => (p.1, none))) k = if k ∈ keysO ins then none else own? l k
  | [], l, _, k => by simp [applyU, keysO]
  | (k0, o) :: ins, l, h, k => by
    simp only [List.map_cons, applyU]
    rw [applyU_dels ins (nodup_delO h), own?_delO h]
    simp only [keysO, List.map_cons, List.mem_cons]
    by_cases h1 : k ∈ List.map (fun x => x.1) ins
    · simp [h1]
    · by_cases h2 : k = k0
      · subst h2; simp [h1]
      · simp [h1, h2]
theorem applyU_sets : ∀ (outs : List (Nat × Own)) (l : List (Nat × Own)), (keysO outs).Nodup → ∀ k, own? (applyU l (outs.map fun p => (p.1, some p.2))) k = match own? outs k with | some o => some o | none => own? l k
  | [], l, _, k => by simp [applyU, own?]
  | (k0, o) :: outs, l, h, k => by
    simp only [keysO, List.map_cons, List.nodup_cons] at h
    simp only [List.map_cons, applyU]
    rw [applyU_sets outs _ h.2, own?_setO]
    simp only [own?]
    by_cases h2 : k0 = k
    · subst h2
      rw [if_pos rfl, own?_none h.1]
      simp
    · rw [if_neg h2, if_neg (fun e => h2 e.symm)]
theorem own?_call {l ins outs : List (Nat × Own)} (hl : (keysO l).Nodup) (ho : (keysO outs).Nodup) (k : Nat) :
    own? (applyU l (callU ins outs)) k = match own? outs k with | some o => some o | none => if k ∈ keysO ins then none else own? l k := by
  unfold callU
  rw [applyU_app, applyU_sets outs _ ho, applyU_dels ins hl]
theorem newN_mem (u : List (Nat × Option Own)) : ∀ (nm : List Nat) (k : Nat), k ∈ newN nm u ↔ k ∈ nm ∨ ∃ o, (k, some o) ∈ u := by
  induction u with
  | nil => simp [newN]
  | cons p u ih =>
    obtain ⟨k0, o⟩ := p
    intro nm k
    cases o with
    | none => simp only [newN, ih]; simp
    | some o =>
      simp only [newN, ih]
      by_cases h : k0 ∈ nm
      · rw [if_pos h]
        constructor
        · rintro (h1 | ⟨o', h1⟩)
          · exact .inl h1
          · exact .inr ⟨o', by simp [h1]⟩
        · rintro (h1 | ⟨o', h1⟩)
          · exact .inl h1
          · rcases List.mem_cons.1 h1 with h1 | h1
            · simp at h1; exact .inl (h1.1 ▸ h)
            · exact .inr ⟨o', h1⟩
      · rw [if_neg h]
        constructor
        · rintro (h1 | ⟨o', h1⟩)
          · rcases List.mem_cons.1 h1 with h1 | h1
            · exact .inr ⟨o, by simp [h1]⟩
            · exact .inl h1
          · exact .inr ⟨o', by simp [h1]⟩
        · rintro (h1 | ⟨o', h1⟩)
          · exact .inl (by simp [h1])
          · rcases List.mem_cons.1 h1 with h1 | h1
            · simp at h1; exact .inl (by simp [h1.1])
            · exact .inr ⟨o', h1⟩
theorem run_callFunc {P : Program} {f : FuncId} {w : World} (h : okF P f = true) (args : Array Value) : (callFunc f args).run P w = .ok (.enter f args) w := by
  unfold okF at h
  split at h
  · rename_i fn hf
    simp at h
    have h2 : fn.body ≠ none := fun e => by simp [e] at h
    simp [callFunc, hf, h.1, h2]
  · cases h
section
variable {c : Ctx} {β : Names} {a : Act} {w : World}
theorem call_state {st1 : St} (H : Holds c β st1 a w) {ins outs : List (Nat × Own)} {new : List Nat} {β' : Names} {w' : World} (hin : ∀ k o, (k, o) ∈ ins → own? st1.own k = some o) (hnew : ∀ k, k ∈ new → k ∉ st1.nm) (hno : ∀ k, k ∈ new → k ∈ keysO outs)
    (hβ : β.le β') (hfr : ∀ k, k ∉ new → β' k = β k) (ho : OwnsOk (fun b => c.E0 b ∨ ∃ k, k ∈ keysO st1.own ∧ k ∉ keysO ins ∧ β.blk k = some b) β' w' outs) (hk : Keeps (ownB β ins) w w')
    (hb : ∀ k, k ∈ keysO outs → ∀ b, β'.blk k = some b → w.heap.size ≤ b ∨ ownB β ins b) :
    Holds c β' ⟨st1.env, applyU st1.own (callU ins outs), newN st1.nm (callU ins outs)⟩ a w' ∧
      (∀ b, Eo c.E0 β' (applyU st1.own (callU ins outs)) b → Eo (fun b => c.E0 b ∨ ∃ k, k ∈ keysO st1.own ∧ k ∉ keysO ins ∧ β.blk k = some b) β' outs b) := by
  have hq := own?_call (ins := ins) (outs := outs) H.own.nodup ho.nodup
  have hinb : ∀ b, ownB β ins b → ownB β st1.own b := fun b ⟨k, h1, h2⟩ => by
    obtain ⟨o, ho⟩ := keys_mem h1
    exact ⟨k, mem_keys (own?_mem (hin k o ho)), h2⟩
  have hold : ∀ k, k ∈ keysO st1.own → β'.blk k = β.blk k := fun k hk => by
    obtain ⟨o, ho⟩ := keys_mem hk
    obtain ⟨v, hv⟩ := (H.own.ok k o ho).key
    exact hβ.blk hv
  have hcases : ∀ k o, own? (applyU st1.own (callU ins outs)) k = some o → (k, o) ∈ outs ∨ (k ∉ keysO outs ∧ k ∉ keysO ins ∧ own? st1.own k = some o) := fun k o h => by
    rw [hq] at h
    cases h1 : own? outs k with
    | some o' => simp [h1] at h; subst h; exact .inl (own?_mem h1)
    | none =>
      simp only [h1] at h
      split at h
      · cases h
      · rename_i h2
        have h5 : k ∉ keysO outs := fun h3 => by
          obtain ⟨o', h4⟩ := key_iff.1 h3
          rw [h1] at h4
          cases h4
        exact .inr ⟨h5, h2, h⟩
  have hE : ∀ b, Eo c.E0 β' (applyU st1.own (callU ins outs)) b ↔ Eo (fun b => c.E0 b ∨ ∃ k, k ∈ keysO st1.own ∧ k ∉ keysO ins ∧ β.blk k = some b) β' outs b := fun b => by
    constructor
    · rintro (h | ⟨k, h1, h2⟩)
      · exact .inl (.inl h)
      · obtain ⟨o, h3⟩ := key_iff.1 h1
        rcases hcases k o h3 with h4 | ⟨_, h5, h6⟩
        · exact .inr ⟨k, mem_keys h4, h2⟩
        · have h7 := mem_keys (own?_mem h6)
          rw [hold k h7] at h2
          exact .inl (.inr ⟨k, h7, h5, h2⟩)
    · rintro ((h | ⟨k, h1, h2, h3⟩) | ⟨k, h1, h2⟩)
      · exact .inl h
      · refine .inr ⟨k, ?_, by rw [hold k h1]; exact h3⟩
        rw [key_iff, hq]
        cases h4 : own? outs k with
        | some o => exact ⟨o, rfl⟩
        | none =>
          obtain ⟨o, ho⟩ := key_iff.1 h1
          exact ⟨o, by simp [h2, ho]⟩
      · refine .inr ⟨k, ?_, h2⟩
        rw [key_iff, hq]
        obtain ⟨o, ho⟩ := key_iff.1 h1
        exact ⟨o, by simp [ho]⟩
  have hEe : Eo c.E0 β' (applyU st1.own (callU ins outs)) = Eo (fun b => c.E0 b ∨ ∃ k, k ∈ keysO st1.own ∧ k ∉ keysO ins ∧ β.blk k = some b) β' outs := funext fun b => propext (hE b)
  have hl : Lasts (Eo c.E0 β st1.own) (Eo c.E0 β' (applyU st1.own (callU ins outs))) w w' := by
    intro b h1 h2
    refine ⟨fun h3 => ?_, hk.block b h1 (fun h3 => h2 (.inr (by obtain ⟨k, h4, h5⟩ := hinb b h3; exact ⟨k, h4, h5⟩)))⟩
    rcases (hE b).1 h3 with (h4 | ⟨k, h4, _, h5⟩) | ⟨k, h4, h5⟩
    · exact h2 (.inl h4)
    · exact h2 (.inr ⟨k, h4, h5⟩)
    · rcases hb k h4 b h5 with h6 | h6
      · omega
      · obtain ⟨k', h7, h8⟩ := hinb b h6
        exact h2 (.inr ⟨k', h7, h8⟩)
  refine ⟨H.change hβ (hk.mono hinb) ⟨fun k o h => ?_, nodup_applyU _ H.own.nodup, ?_, ?_⟩ ?_ ?_ ?_ (fun k h1 => ⟨(newN_mem _ _ _).2 (.inl h1), hfr k (fun h2 => hnew k h2 h1)⟩), fun b => (hE b).1⟩
  · rcases hcases k o (mem_own? (nodup_applyU _ H.own.nodup) h) with h1 | ⟨h1, h2, h3⟩
    · rw [hEe]; exact ho.ok k o h1
    · refine (H.own.ok k o (own?_mem h3)).lasts hl hβ (fun b hb1 => hk.block b (H.own.lt k (mem_keys (own?_mem h3)) b hb1).1 ?_)
      rintro ⟨k', h4, h5⟩
      obtain ⟨o', ho'⟩ := keys_mem h4
      have h6 := mem_keys (own?_mem (hin k' o' ho'))
      exact H.own.apart k k' (mem_keys (own?_mem h3)) h6 (fun e => h2 (e ▸ h4)) b hb1 h5
  · intro k k' h1 h2 hne b hb1 hb2
    obtain ⟨o, h3⟩ := key_iff.1 h1
    obtain ⟨o', h4⟩ := key_iff.1 h2
    rcases hcases k o h3 with h5 | ⟨_, h5, h5'⟩ <;> rcases hcases k' o' h4 with h6 | ⟨_, h6, h6'⟩
    · exact ho.apart k k' (mem_keys h5) (mem_keys h6) hne b hb1 hb2
    · have h7 := mem_keys (own?_mem h6')
      rw [hold k' h7] at hb2
      exact (ho.lt k (mem_keys h5) b hb1).2 (.inr ⟨k', h7, h6, hb2⟩)
    · have h7 := mem_keys (own?_mem h5')
      rw [hold k h7] at hb1
      exact (ho.lt k' (mem_keys h6) b hb2).2 (.inr ⟨k, h7, h5, hb1⟩)
    · have h7 := mem_keys (own?_mem h5')
      have h8 := mem_keys (own?_mem h6')
      rw [hold k h7] at hb1
      rw [hold k' h8] at hb2
      exact H.own.apart k k' h7 h8 hne b hb1 hb2
  · intro k h1 b hb1
    obtain ⟨o, h3⟩ := key_iff.1 h1
    rcases hcases k o h3 with h5 | ⟨_, h5, h5'⟩
    · obtain ⟨x, y⟩ := ho.lt k (mem_keys h5) b hb1
      exact ⟨x, fun h => y (.inl h)⟩
    · have h7 := mem_keys (own?_mem h5')
      rw [hold k h7] at hb1
      obtain ⟨x, y⟩ := H.own.lt k h7 b hb1
      have := hk.size
      exact ⟨by omega, y⟩
  · intro k h1 b hb1
    obtain ⟨o, h3⟩ := key_iff.1 h1
    rcases hcases k o h3 with h5 | ⟨_, h5, h5'⟩
    · exact (hb k (mem_keys h5) b hb1).imp id (hinb b)
    · have h7 := mem_keys (own?_mem h5')
      rw [hold k h7] at hb1
      exact .inr ⟨k, h7, hb1⟩
  · intro k h1
    rw [newN_mem]
    obtain ⟨o, h3⟩ := key_iff.1 h1
    rcases hcases k o h3 with h5 | ⟨_, h5, h5'⟩
    · exact .inr ⟨o, by unfold callU; rw [List.mem_append]; exact .inr (List.mem_map.2 ⟨(k, o), h5, rfl⟩)⟩
    · exact .inl (H.kn k (mem_keys (own?_mem h5')))
  · intro k h1
    rw [newN_mem] at h1
    have h2 : k ∉ st1.nm := fun h => h1 (.inl h)
    by_cases h3 : k ∈ new
    · have h4 : k ∉ keysO outs := fun h => by
        obtain ⟨o, ho⟩ := keys_mem h
        exact h1 (.inr ⟨o, by unfold callU; rw [List.mem_append]; exact .inr (List.mem_map.2 ⟨(k, o), ho, rfl⟩)⟩)
      exact absurd (hno k h3) h4
    · rw [hfr k h3]; exact H.nm k h2
theorem call_E0 {st1 : St} {ins : List (Nat × Own)} (hin : ∀ k o, (k, o) ∈ ins → own? st1.own k = some o) :
    Eo (fun b => c.E0 b ∨ ∃ k, k ∈ keysO st1.own ∧ k ∉ keysO ins ∧ β.blk k = some b) β ins = Eo c.E0 β st1.own := by
  funext b
  apply propext
  constructor
  · rintro ((h | ⟨k, h1, _, h3⟩) | ⟨k, h1, h2⟩)
    · exact .inl h
    · exact .inr ⟨k, h1, h3⟩
    · obtain ⟨o, ho⟩ := keys_mem h1
      exact .inr ⟨k, mem_keys (own?_mem (hin k o ho)), h2⟩
  · rintro (h | ⟨k, h1, h2⟩)
    · exact .inl (.inl h)
    · by_cases h3 : k ∈ keysO ins
      · exact .inr ⟨k, h3, h2⟩
      · exact .inl (.inr ⟨k, h1, h3, h2⟩)
theorem call_wp {st1 : St} (H : Holds c β st1 a w) {o : Oper} {dst : Option Nat} {f : FuncId} {args : List V} {ins outs : List (Nat × Own)} {res : V} {new : List Nat} (hS : Ctr c.P f args ins res outs new) (hd : o.dst = dst) (hlt : ∀ d, dst = some d → d < c.nt) (hno : (keysO ins).Nodup)
    (hin : ∀ k o, (k, o) ∈ ins → own? st1.own k = some o) (hnew : ∀ k, k ∈ new → k ∉ st1.nm) {vals : Array Value} (hrun : (execOp a.eval o).run c.P w = .ok (.enter f vals) w) (hsz : vals.size = args.length)
    (hv : ∀ (j : Nat) (v : Value) (x : V), vals[j]? = some v → args[j]? = some x → RelV β (Eo c.E0 β st1.own) w v x) {Q : Exit → Act → World → Prop} {K : Act → World → Prop}
    (hK : ∀ β' a' w', Holds c β' (st1.stp dst { val := res, upd := callU ins outs, rd := keysO ins, new := new }) a' w' → K a' w') : o.wpIn c.F 0 c.P a w K Q := by
  obtain ⟨_, hko, hno2, hS⟩ := hS
  have hE := call_E0 (c := c) (β := β) hin
  have hins : OwnsOk (fun b => c.E0 b ∨ ∃ k, k ∈ keysO st1.own ∧ k ∉ keysO ins ∧ β.blk k = some b) β w ins := by
    have hk : ∀ k, k ∈ keysO ins → k ∈ keysO st1.own := fun k h => by
      obtain ⟨o, ho⟩ := keys_mem h
      exact mem_keys (own?_mem (hin k o ho))
    refine ⟨fun k o h => ?_, hno, fun k k' h1 h2 => H.own.apart k k' (hk k h1) (hk k' h2), fun k h b hb => ?_⟩
    · rw [hE]; exact H.own.ok k o (own?_mem (hin k o h))
    · obtain ⟨x, y⟩ := H.own.lt k (hk k h) b hb
      refine ⟨x, ?_⟩
      rintro (h1 | ⟨k', h1, h2, h3⟩)
      · exact y h1
      · exact H.own.apart k k' (hk k h) h1 (fun e => h2 (e ▸ h)) b hb h3
  have hcall := hS (fun b => c.E0 b ∨ ∃ k, k ∈ keysO st1.own ∧ k ∉ keysO ins ∧ β.blk k = some b) β w vals (by
    rintro b (h | ⟨k, h1, _, h3⟩)
    · have := c.hE b h
      have := H.kp.size
      omega
    · exact (H.own.lt k h1 b h3).1) hsz (by rw [hE]; exact hv) hins (fun k hk => H.nm k (hnew k hk))
  refine Oper.wpc_enter hrun (hcall.mono fun e w' he => ?_)
  obtain ⟨v, β', rfl, h1, h2, h3, h4, h5, h6⟩ := he
  obtain ⟨H', hEs⟩ := call_state H hin hnew hno2 h1 h2 h4 h5 h6
  refine hK β' _ w' ?_
  rw [hd]
  simp only [St.stp]
  cases dst with
  | none => exact H'
  | some d =>
    refine H'.setV (hlt d rfl) (h3.lasts' (w := w') (w' := w') (fun b hb hE2 => ⟨fun h => hE2 (hEs b h), rfl⟩) (Names.le.refl β'))
end
end Go.Bx
end
section
set_option linter.unusedSimpArgs false
set_option linter.unusedVariables false
namespace Go.Bx
open Go.RowKit
def hasU : List (Nat × Option Own) → Bool
  | [] => false
  | _ :: _ => true
theorem hasU_nil {u : List (Nat × Option Own)} (h : hasU u = false) : u = [] := by
  cases u with
  | nil => rfl
  | cons => cases h
def vcR (c : Ctx) (b : Bool) : List I → St → List Lg → (List Lg → St → Prop) → Prop
  | [], st, acc, K => K acc st
  | ⟨d, g, q⟩ :: is, st, acc, K =>
    if isCall q = true then TR c b (⟨d, g, q⟩ :: is) st acc K
    else match g with
      | none => (opR st true (d.getD 0) q).side ∧ vcR c b is (st.stp d ((opR st true (d.getD 0) q).stp (newOf q (d.getD 0)))) (lgs b acc (((opR st true (d.getD 0) q).stp (newOf q (d.getD 0))).lg)) K
      | some (s, want) =>
        match gOf st.env s want with
        | none => False
        | some gc =>
          if hasU (opR st true (d.getD 0) q).upd = true then
            (gc = true → (opR st true (d.getD 0) q).side ∧ vcR c b is (st.stp d ((opR st true (d.getD 0) q).stp (newOf q (d.getD 0)))) (lgs b acc (((opR st true (d.getD 0) q).stp (newOf q (d.getD 0))).lg)) K) ∧
            (gc = false → vcR c b is (st.stp d { val := .un, upd := [], rd := [], new := [] }) (lgs b acc ⟨[], []⟩) K)
          else
            (gc = true → (opR st gc (d.getD 0) q).side) ∧ (makes q = true → d.getD 0 ∉ st.nm) ∧ vcR c b is (st.stp d { val := .gd gc (opR st true (d.getD 0) q).val, upd := [], rd := (opR st true (d.getD 0) q).rd, new := newOf q (d.getD 0) }) (lgs b acc ⟨(opR st true (d.getD 0) q).rd, newOf q (d.getD 0)⟩) K
section
variable {c : Ctx} {b : Bool} {is : List I} {st : St} {acc : List Lg} {K : List Lg → St → Prop}
theorem vcR_nil : vcR c b [] st acc K = K acc st := propext ⟨fun h => h, fun h => h⟩
theorem vcR_call {d : Option Nat} {g : Option (Nat × Bool)} {q : O} (h : isCall q = true) : vcR c b (⟨d, g, q⟩ :: is) st acc K = TR c b (⟨d, g, q⟩ :: is) st acc K := by
  simp only [vcR, h, if_true]
theorem vcR_op {d : Option Nat} {q : O} (h : isCall q = false) : vcR c b (⟨d, none, q⟩ :: is) st acc K =
    ((opR st true (d.getD 0) q).side ∧ vcR c b is (st.stp d ((opR st true (d.getD 0) q).stp (newOf q (d.getD 0)))) (lgs b acc (((opR st true (d.getD 0) q).stp (newOf q (d.getD 0))).lg)) K) := by
  simp only [vcR, h, Bool.false_eq_true, if_false]
theorem vcR_n {d : Option Nat} {q : O} : vcR c b (⟨d, none, q⟩ :: is) st acc K = if isCall q = true then TR c b (⟨d, none, q⟩ :: is) st acc K else
    ((opR st true (d.getD 0) q).side ∧ vcR c b is (st.stp d ((opR st true (d.getD 0) q).stp (newOf q (d.getD 0)))) (lgs b acc (((opR st true (d.getD 0) q).stp (newOf q (d.getD 0))).lg)) K) := by
  by_cases h : isCall q = true
  · rw [vcR_call h, if_pos h]
  · rw [vcR_op (by simpa using h), if_neg h]
theorem vcR_s {d : Option Nat} {q : O} {s : Nat} {want : Bool} : vcR c b (⟨d, some (s, want), q⟩ :: is) st acc K = if isCall q = true then TR c b (⟨d, some (s, want), q⟩ :: is) st acc K else
    (match gOf st.env s want with
     | none => False
     | some gc => if hasU (opR st true (d.getD 0) q).upd = true then
         (gc = true → (opR st true (d.getD 0) q).side ∧ vcR c b is (st.stp d ((opR st true (d.getD 0) q).stp (newOf q (d.getD 0)))) (lgs b acc (((opR st true (d.getD 0) q).stp (newOf q (d.getD 0))).lg)) K) ∧
            (gc = false → vcR c b is (st.stp d { val := .un, upd := [], rd := [], new := [] }) (lgs b acc ⟨[], []⟩) K)
       else (gc = true → (opR st gc (d.getD 0) q).side) ∧ (makes q = true → d.getD 0 ∉ st.nm) ∧ vcR c b is (st.stp d { val := .gd gc (opR st true (d.getD 0) q).val, upd := [], rd := (opR st true (d.getD 0) q).rd, new := newOf q (d.getD 0) }) (lgs b acc ⟨(opR st true (d.getD 0) q).rd, newOf q (d.getD 0)⟩) K) := by
  simp only [vcR]
theorem guard_of {ops : Array Oper} {o : Oper} {d : Option Nat} {s : Nat} {want : Bool} {q : O} (hc : Cmp c ops o ⟨d, some (s, want), q⟩) : ∃ j, o.guard = some (j, want) ∧ (ops[j]?).bind (·.dst) = some s := by
  have hcg := hc.gd
  cases hgo : o.guard with
  | none => simp only [hgo] at hcg; cases hcg
  | some jw =>
    obtain ⟨j, w'⟩ := jw
    simp only [hgo] at hcg
    obtain ⟨s', hs', e⟩ := hcg
    injection e with e; injection e with e1 e2
    exact ⟨j, by rw [e2], by rw [hs', e1]⟩
theorem gOf_congr {st st1 : St} {d : Option Nat} {s : Nat} {want : Bool} {q : O} (h : ∀ k, k ∈ (I.slots ⟨d, some (s, want), q⟩) → get st1.env k = get st.env k) : gOf st1.env s want = gOf st.env s want := by
  unfold gOf
  rw [h s (by simp [I.slots])]
theorem valid_on {d : Option Nat} {s : Nat} {want : Bool} {q : O} (hg : gOf st.env s want = some true) {sp : Stp} (h : Valid c ⟨d, none, q⟩ st sp) : Valid c ⟨d, some (s, want), q⟩ st sp := by
  intro st1 h1 h2 h3 ops o hc β a w H Q K hK
  obtain ⟨j, hgo, hj⟩ := guard_of hc
  have hw := wanted_ok H hgo hj (by rw [gOf_congr h1]; exact hg)
  rw [if_pos hw]
  have := h st1 (fun k hk => h1 k (by simp [I.slots] at hk ⊢; exact .inr hk)) h2 h3 (o := { o with guard := none }) ops ⟨hc.dst, hc.lt, hc.op, hc.mkk, hc.st, rfl⟩ β a w H Q K hK
  rw [if_pos (by simp [Region.wanted])] at this
  exact this
theorem valid_off {d : Option Nat} {s : Nat} {want : Bool} {q : O} (hg : gOf st.env s want = some false) : Valid c ⟨d, some (s, want), q⟩ st { val := .un, upd := [], rd := [], new := [] } := by
  intro st1 h1 h2 h3 ops o hc β a w H Q K hK
  obtain ⟨j, hgo, hj⟩ := guard_of hc
  have hw := wanted_ok H hgo hj (by rw [gOf_congr h1]; exact hg)
  rw [if_neg (by rw [hw]; simp)]
  have hdst := hc.dst
  simp only at hdst
  refine hK β _ w ?_
  rw [hdst]
  simp only [St.stp, applyU, newN]
  cases d with
  | none => exact H
  | some d' => exact H.setV (hc.lt d' rfl) (.un _)
theorem newOf_fresh {d : Nat} {q : O} {p : Bool} (hs : (opR st p d q).side) : ∀ k, k ∈ newOf q d → k ∉ st.nm := fun k hk => by
  unfold newOf at hk
  split at hk
  · rename_i hm
    simp at hk
    subst hk
    exact makes_upd hs hm
  · simp at hk
theorem vcR_ok : ∀ {is : List I} {st : St} {acc : List Lg}, vcR c b is st acc K → TR c b is st acc K
  | [], st, acc, h => TR.nil h
  | ⟨d, g, q⟩ :: is, st, acc, h => by
    by_cases hq : isCall q = true
    · rw [vcR_call hq] at h; exact h
    · have hq' : isCall q = false := by simpa using hq
      cases g with
      | none =>
        rw [vcR_op hq'] at h
        obtain ⟨h1, h2⟩ := h
        exact TR.cons _ (valid_op hq' h1) (newOf_fresh h1) (vcR_ok h2)
      | some g =>
        obtain ⟨s, want⟩ := g
        rw [vcR_s, if_neg hq] at h
        split at h
        · exact h.elim
        · rename_i gc hg
          by_cases hm : hasU (opR st true (d.getD 0) q).upd = true
          · rw [if_pos hm] at h
            cases gc with
            | true =>
              obtain ⟨h1, h2⟩ := h.1 rfl
              exact TR.cons _ (valid_on hg (valid_op hq' h1)) (newOf_fresh h1) (vcR_ok h2)
            | false => exact TR.cons _ (valid_off hg) (fun k hk => by simp at hk) (vcR_ok (h.2 rfl))
          · rw [if_neg hm] at h
            obtain ⟨h1, h2, h3⟩ := h
            refine TR.cons _ (valid_gd hq' hg h1 (hasU_nil (by simpa using hm))) (fun k hk => ?_) (vcR_ok h3)
            unfold newOf at hk
            split at hk
            · rename_i hmm
              simp at hk
              subst hk
              exact h2 hmm
            · simp at hk
theorem vcR_mono {K' : List Lg → St → Prop} (hk : ∀ acc st, K acc st → K' acc st) : ∀ {is : List I} {st : St} {acc : List Lg}, vcR c b is st acc K → vcR c b is st acc K'
  | [], st, acc, h => hk _ _ h
  | ⟨d, g, q⟩ :: is, st, acc, h => by
    by_cases hq : isCall q = true
    · rw [vcR_call hq] at h ⊢; exact h.mono hk
    · have hq' : isCall q = false := by simpa using hq
      cases g with
      | none =>
        rw [vcR_op hq'] at h ⊢
        exact ⟨h.1, vcR_mono hk h.2⟩
      | some g =>
        obtain ⟨s, want⟩ := g
        rw [vcR_s, if_neg hq] at h ⊢
        split at h
        · exact h.elim
        · rename_i gc hg
          by_cases hm : hasU (opR st true (d.getD 0) q).upd = true
          · rw [if_pos hm] at h
            simp only [hm, if_true]
            exact ⟨fun e => ⟨(h.1 e).1, vcR_mono hk (h.1 e).2⟩, fun e => vcR_mono hk (h.2 e)⟩
          · rw [if_neg hm] at h
            simp only [hm]
            exact ⟨h.1, h.2.1, vcR_mono hk h.2.2⟩
theorem cCall_func {P : Program} {cl : Call} {f : FuncId} {xs : List X} (h : cCall P cl = some (.call f xs)) : cl.callee = .value (.func f) ∧ cXs cl.args.toList = some xs := by
  unfold cCall at h
  split at h
  · unfold cBuiltin at h
    (repeat' split at h) <;> first | (cases h; done) | (obtain ⟨_, _, h3⟩ := Option.map_eq_some_iff.1 h; cases h3; done)
  · rename_i f' hf
    obtain ⟨ys, h1, h2⟩ := Option.map_eq_some_iff.1 h
    cases h2
    exact ⟨hf, h1⟩
  · split at h <;> cases h
  · split at h <;> cases h
theorem cCall_val {P : Program} {cl : Call} {x : X} {xs : List X} (h : cCall P cl = some (.callv x xs)) : ∃ ox, cl.callee = .value ox ∧ cX ox = some x ∧ cXs cl.args.toList = some xs := by
  unfold cCall at h
  split at h
  · unfold cBuiltin at h
    (repeat' split at h) <;> first | (cases h; done) | (obtain ⟨_, _, h3⟩ := Option.map_eq_some_iff.1 h; cases h3; done)
  · obtain ⟨ys, h1, h2⟩ := Option.map_eq_some_iff.1 h
    cases h2
  · rename_i ox hne hcl
    split at h
    · rename_i y ys h1 h2
      cases h
      exact ⟨_, hcl, h1, h2⟩
    · cases h
  · split at h <;> cases h
theorem cCall_ivk {P : Program} {cl : Call} {m : String} {x : X} {xs : List X} (h : cCall P cl = some (.ivk m x xs)) : ∃ ox, cl.callee = .invoke ox m ∧ cX ox = some x ∧ cXs cl.args.toList = some xs := by
  unfold cCall at h
  split at h
  · unfold cBuiltin at h
    (repeat' split at h) <;> first | (cases h; done) | (obtain ⟨_, _, h3⟩ := Option.map_eq_some_iff.1 h; cases h3; done)
  · obtain ⟨ys, h1, h2⟩ := Option.map_eq_some_iff.1 h
    cases h2
  · split at h <;> cases h
  · rename_i ox m' hcl
    split at h
    · rename_i y ys h1 h2
      cases h
      exact ⟨_, hcl, h1, h2⟩
    · cases h
theorem cOp_call {P : Program} {o : Oper} {q : O} (h : cOp P o = some q) (hq : isCall q = true) (hna : ∀ sz n x, q ≠ .asl sz n x) : ∃ cl, o.op = .call cl ∧ cCall P cl = some q := by
  replace h := cOp_0 h (by rintro rfl; simp [isCall] at hq)
  unfold cOp0 at h
  split at h
  case h_22 => rename_i cl ho; exact ⟨cl, ho, h⟩
  all_goals (try (obtain ⟨y, _, rfl⟩ := Option.map_eq_some_iff.1 h; simp [isCall] at hq; done))
  all_goals ((repeat' split at h) <;> first | (cases h; simp [isCall] at hq; done) | (cases h; done) | (cases h; exact absurd rfl (hna _ _ _)) | (obtain ⟨y, _, rfl⟩ := Option.map_eq_some_iff.1 h; simp [isCall] at hq; done))
theorem cOp_asl {P : Program} {o : Oper} {sz n : Nat} {x : X} (h : cOp P o = some (.asl sz n x)) : ∃ t e ox, o.op = .slice t ox none none none ∧ P.underlying t = some (.array n e) ∧ szB P e = some sz ∧ cX ox = some x := by
  replace h := cOp_0 h (by intro e; cases e)
  unfold cOp0 at h
  split at h
  case h_21 =>
    rename_i t ox lo hi mx ho
    split at h
    · split at h <;> cases h
    · rename_i n' e x' ht hx
      split at h
      · rename_i sz' hz
        cases h
        exact ⟨t, e, ox, ho, ht, hz, hx⟩
      · cases h
    · cases h
  case h_22 =>
    rename_i cl ho
    unfold cCall at h
    split at h
    · unfold cBuiltin at h
      (repeat' split at h) <;> first | (cases h; done) | (obtain ⟨_, _, h3⟩ := Option.map_eq_some_iff.1 h; cases h3; done)
    · obtain ⟨_, _, h3⟩ := Option.map_eq_some_iff.1 h; cases h3
    · split at h <;> cases h
    · split at h <;> cases h
  all_goals (try (obtain ⟨_, _, h3⟩ := Option.map_eq_some_iff.1 h; cases h3; done))
  all_goals ((repeat' split at h) <;> first | (cases h; done) | (obtain ⟨_, _, h3⟩ := Option.map_eq_some_iff.1 h; cases h3; done))
theorem gslots_call {d : Option Nat} {g : Option (Nat × Bool)} {f : Nat} {xs : List X} : ∀ k, k ∈ xsSlots xs → k ∈ (I.slots ⟨d, g, .call f xs⟩) := fun k hk => by simp [I.slots, O.slots, hk]
theorem valid_call {d : Option Nat} {f : Nat} {xs : List X} {ins outs : List (Nat × Own)} {res : V} {new : List Nat} (hS : Ctr c.P f (evVs st xs) ins res outs new) (hs : evSs true st xs)
    (hin : ∀ k o, (k, o) ∈ ins → own? st.own k = some o) (hno : (keysO ins).Nodup) : Valid c ⟨d, none, .call f xs⟩ st { val := res, upd := callU ins outs, rd := keysO ins, new := new } := by
  intro st1 h1 h2 h3 ops o hc β a w H Q K hK
  have hcg := hc.gd
  have hg : o.guard = none := by
    cases hg : o.guard with
    | none => rfl
    | some jw => simp only [hg] at hcg; obtain ⟨s, _, h⟩ := hcg; cases h
  rw [if_pos (by simp [Region.wanted, hg])]
  have hsl : ∀ k, k ∈ xsSlots xs → get st1.env k = get st.env k := fun k hk => h1 k (gslots_call k hk)
  have e1 := evVs_congr hsl
  have e2 := evSs_congr (p := true) hsl
  obtain ⟨cl, hcl, hcc⟩ := cOp_call hc.op rfl (by simp)
  obtain ⟨h4, h5⟩ := cCall_func hcc
  obtain ⟨q1, q2⟩ := evVs_ok H h5 (by rw [e2]; exact hs)
  rw [e1] at q1 q2
  have hrun : (execOp a.eval o).run c.P w = .ok (.enter f (cl.args.map a.eval)) w := by
    have hcf := run_callFunc (w := w) hS.1 (cl.args.map a.eval)
    simp [execOp, hcl, resolve, h4, Act.eval, Deferred.ofValue, invoke, hcf]
  exact call_wp H hS hc.dst hc.lt hno (fun k o h => by rw [h2 k (mem_keys h)]; exact hin k o h) h3 hrun (by simpa using q1) (fun j v x hv hx => q2 j v x (by simpa using hv) hx) hK
theorem valid_callv {d : Option Nat} {x : X} {f : Nat} {first cap : List V} {xs : List X} {ins outs : List (Nat × Own)} {res : V} {new : List Nat} (hx : evV st x = .fn (.func f) first cap) (hS : Ctr c.P f (first ++ (evVs st xs ++ cap)) ins res outs new) (hsx : evS true st x) (hs : evSs true st xs)
    (hin : ∀ k o, (k, o) ∈ ins → own? st.own k = some o) (hno : (keysO ins).Nodup) : Valid c ⟨d, none, .callv x xs⟩ st { val := res, upd := callU ins outs, rd := keysO ins, new := new } := by
  intro st1 h1 h2 h3 ops o hc β a w H Q K hK
  have hcg := hc.gd
  have hg : o.guard = none := by
    cases hg : o.guard with
    | none => rfl
    | some jw => simp only [hg] at hcg; obtain ⟨s, _, h⟩ := hcg; cases h
  rw [if_pos (by simp [Region.wanted, hg])]
  have hsl : ∀ k, k ∈ xsSlots xs → get st1.env k = get st.env k := fun k hk => h1 k (by simp [I.slots, O.slots, hk])
  have hslx : ∀ k, k ∈ x.slots → get st1.env k = get st.env k := fun k hk => h1 k (by simp [I.slots, O.slots, hk])
  have e1 := evVs_congr hsl
  have e2 := evSs_congr (p := true) hsl
  obtain ⟨cl, hcl, hcc⟩ := cOp_call hc.op rfl (by simp)
  obtain ⟨ox, h4, hox, h5⟩ := cCall_val hcc
  obtain ⟨q1, q2⟩ := evVs_ok H h5 (by rw [e2]; exact hs)
  rw [e1] at q1 q2
  have hv0 := evV_ok H hox (by rw [evS_congr hslx]; exact hsx)
  rw [evV_congr hslx, hx] at hv0
  generalize hu : a.eval ox = u at *
  cases hv0 with
  | fn _ fi ca _ _ g1 g2 r1 r2 =>
    have hrun : (execOp a.eval o).run c.P w = .ok (.enter f (fi ++ cl.args.map a.eval ++ ca)) w := by
      have hcf := run_callFunc (w := w) hS.1 (fi ++ cl.args.map a.eval ++ ca)
      simp only [execOp, hcl, resolve, h4, hu, Deferred.ofValue, invoke, Sem.run_bind, Sem.run_pure, Result.andThen_ok]
      exact hcf
    have hl : cl.args.size = (evVs st xs).length := by simpa using q1
    refine call_wp H hS hc.dst hc.lt hno (fun k o h => by rw [h2 k (mem_keys h)]; exact hin k o h) h3 hrun (by simp; omega) (fun j v y hv hy => ?_) hK
    have hv' : (fi.toList ++ (cl.args.toList.map a.eval ++ ca.toList))[j]? = some v := by
      rw [← Array.getElem?_toList] at hv
      simpa using hv
    by_cases hj : j < first.length
    · rw [List.getElem?_append_left (by simp; omega)] at hv'
      rw [List.getElem?_append_left hj] at hy
      exact r1 j v y (by simpa using hv') hy
    · rw [List.getElem?_append_right (by simp; omega)] at hv'
      rw [List.getElem?_append_right (by omega)] at hy
      simp only [Array.length_toList, g1] at hv'
      by_cases hj2 : j - first.length < (evVs st xs).length
      · rw [List.getElem?_append_left (by simp; omega)] at hv'
        rw [List.getElem?_append_left hj2] at hy
        exact q2 _ v y hv' hy
      · rw [List.getElem?_append_right (by simp; omega)] at hv'
        rw [List.getElem?_append_right (by omega)] at hy
        simp only [List.length_map, Array.length_toList, hl] at hv'
        exact r2 _ v y (by simpa using hv') hy
theorem valid_asl {d : Option Nat} {sz n : Nat} {x : X} {cs : List D} (hx : evV st x = .mem cs) (hs : evS true st x) (hl : n * sz ≤ cs.length) : Valid c ⟨d, none, .asl sz n x⟩ st { val := .d (.sl true sz n (litRow sz cs)), upd := [], rd := [], new := [] } := by
  intro st1 h1 h2 h3 ops o hc β a w H Q K hK
  have hcg := hc.gd
  have hg : o.guard = none := by
    cases hg : o.guard with
    | none => rfl
    | some jw => simp only [hg] at hcg; obtain ⟨s, _, h⟩ := hcg; cases h
  rw [if_pos (by simp [Region.wanted, hg])]
  obtain ⟨t, e, ox, ho, ht, hz, hcx⟩ := cOp_asl hc.op
  have hsl : ∀ k, k ∈ x.slots → get st1.env k = get st.env k := fun k hk => h1 k (by simp [I.slots, O.slots, hk])
  have hx1 : evV st1 x = .mem cs := (evV_congr hsl).trans hx
  have hdst := hc.dst
  simp only at hdst
  obtain ⟨v, w', β', hr, _, H'⟩ := s_asl (d := 0) H (fun d hd => hc.lt d (hdst ▸ hd)) ho ht hz hcx (by simp only [opR, hx1]; exact ⟨by rw [evS_congr hsl]; exact hs, hl⟩)
  refine Oper.wp_ok hr (hK β' _ w' ?_)
  rw [hdst] at H' ⊢
  simp only [opR, hx1] at H'
  simpa [St.app, St.stp] using H'
theorem valid_gd_pure {d : Option Nat} {s : Nat} {want gc : Bool} {q : O} {res : V} (hg : gOf st.env s want = some gc) (h : gc = true → Valid c ⟨d, none, q⟩ st { val := res, upd := [], rd := [], new := [] }) :
    Valid c ⟨d, some (s, want), q⟩ st { val := .gd gc res, upd := [], rd := [], new := [] } := by
  intro st1 h1 h2 h3 ops o hc β a w H Q K hK
  cases gc with
  | true =>
    refine valid_on hg (h rfl) st1 h1 h2 h3 ops o hc β a w H Q K (fun β' a' w' H' => hK β' a' w' ?_)
    simp only [St.stp, applyU, newN] at H' ⊢
    cases d with
    | none => exact H'
    | some d' =>
      simp only [setE] at H' ⊢
      refine ⟨H'.sz, H'.df, fun s' => ?_, H'.own, H'.fr, H'.kn, H'.nm, H'.kp, H'.fx⟩
      have h5 := H'.env s'
      simp only [get] at h5 ⊢
      split
      · rename_i e
        rw [if_pos e] at h5
        exact .gd _ _ _ (fun _ => h5) (fun h => by cases h)
      · rename_i e
        rw [if_neg e] at h5
        exact h5
  | false =>
    obtain ⟨j, hgo, hj⟩ := guard_of hc
    have hw := wanted_ok H hgo hj (by rw [gOf_congr h1]; exact hg)
    rw [if_neg (by rw [hw]; simp)]
    have hdst := hc.dst
    simp only at hdst
    refine hK β _ w ?_
    rw [hdst]
    simp only [St.stp, applyU, newN]
    cases d with
    | none => exact H
    | some d' => exact H.setV (hc.lt d' rfl) (.gd _ _ _ (fun h => by cases h) (fun _ => rfl))
theorem TR.call {d : Option Nat} {f : Nat} {xs : List X} (ins outs : List (Nat × Own)) (res : V) (new : List Nat) (hS : Ctr c.P f (evVs st xs) ins res outs new) (hs : evSs true st xs) (hin : ∀ k o, (k, o) ∈ ins → own? st.own k = some o) (hno : (keysO ins).Nodup) (hnew : ∀ k, k ∈ new → k ∉ st.nm)
    (h : vcR c b is (st.stp d { val := res, upd := callU ins outs, rd := keysO ins, new := new }) (lgs b acc ⟨keysO ins, (callU ins outs).map (·.1) ++ new⟩) K) : TR c b (⟨d, none, .call f xs⟩ :: is) st acc K :=
  TR.cons _ (valid_call hS hs hin hno) hnew (vcR_ok h)
theorem TR.pure {d : Option Nat} {f : Nat} {xs : List X} {res : V} (hS : Ctr c.P f (evVs st xs) [] res [] []) (hs : evSs true st xs)
    (h : vcR c b is (st.stp d { val := res, upd := [], rd := [], new := [] }) (lgs b acc ⟨[], []⟩) K) : TR c b (⟨d, none, .call f xs⟩ :: is) st acc K :=
  TR.cons { val := res, upd := [], rd := [], new := [] } (valid_call hS hs (fun k o h => by simp at h) (by simp [keysO])) (fun k hk => by simp at hk) (vcR_ok h)
theorem TR.callv {d : Option Nat} {x : X} {f : Nat} {first cap : List V} {xs : List X} (ins outs : List (Nat × Own)) (res : V) (new : List Nat) (hx : evV st x = .fn (.func f) first cap) (hS : Ctr c.P f (first ++ (evVs st xs ++ cap)) ins res outs new) (hsx : evS true st x) (hs : evSs true st xs) (hin : ∀ k o, (k, o) ∈ ins → own? st.own k = some o) (hno : (keysO ins).Nodup) (hnew : ∀ k, k ∈ new → k ∉ st.nm)
    (h : vcR c b is (st.stp d { val := res, upd := callU ins outs, rd := keysO ins, new := new }) (lgs b acc ⟨keysO ins, (callU ins outs).map (·.1) ++ new⟩) K) : TR c b (⟨d, none, .callv x xs⟩ :: is) st acc K :=
  TR.cons _ (valid_callv hx hS hsx hs hin hno) hnew (vcR_ok h)
theorem TR.gpure {d : Option Nat} {s : Nat} {want gc : Bool} {f : Nat} {xs : List X} {res : V} (hg : gOf st.env s want = some gc) (hS : gc = true → Ctr c.P f (evVs st xs) [] res [] []) (hs : gc = true → evSs true st xs)
    (h : vcR c b is (st.stp d { val := .gd gc res, upd := [], rd := [], new := [] }) (lgs b acc ⟨[], []⟩) K) : TR c b (⟨d, some (s, want), .call f xs⟩ :: is) st acc K :=
  TR.cons { val := .gd gc res, upd := [], rd := [], new := [] } (valid_gd_pure hg fun hgc => valid_call (hS hgc) (hs hgc) (fun k o h => by simp at h) (by simp [keysO])) (fun k hk => by simp at hk) (vcR_ok h)
theorem TR.p {P : Program} (hP : c.P = P) {d : Option Nat} {f : Nat} {xs : List X} {res : V} (hS : Ctr P f (evVs st xs) [] res [] []) (hs : evSs true st xs)
    (h : vcR c b is (st.stp d { val := res, upd := [], rd := [], new := [] }) (lgs b acc ⟨[], []⟩) K) : TR c b (⟨d, none, .call f xs⟩ :: is) st acc K :=
  TR.pure (by rw [hP]; exact hS) hs h
theorem TR.gp {P : Program} (hP : c.P = P) {d : Option Nat} {s : Nat} {want gc : Bool} {f : Nat} {xs : List X} {res : V} (hg : gOf st.env s want = some gc) (hS : gc = true → Ctr P f (evVs st xs) [] res [] []) (hs : gc = true → evSs true st xs)
    (h : vcR c b is (st.stp d { val := .gd gc res, upd := [], rd := [], new := [] }) (lgs b acc ⟨[], []⟩) K) : TR c b (⟨d, some (s, want), .call f xs⟩ :: is) st acc K :=
  TR.gpure hg (fun e => by rw [hP]; exact hS e) hs h
theorem TR.pv {P : Program} (hP : c.P = P) {d : Option Nat} {x : X} {f : Nat} {first cap : List V} {xs : List X} {res : V} (hx : evV st x = .fn (.func f) first cap) (hS : Ctr P f (first ++ (evVs st xs ++ cap)) [] res [] []) (hsx : evS true st x) (hs : evSs true st xs)
    (h : vcR c b is (st.stp d { val := res, upd := [], rd := [], new := [] }) (lgs b acc ⟨[], []⟩) K) : TR c b (⟨d, none, .callv x xs⟩ :: is) st acc K :=
  TR.cons { val := res, upd := [], rd := [], new := [] } (valid_callv hx (by rw [hP]; exact hS) hsx hs (fun k o h => by simp at h) (by simp [keysO])) (fun k hk => by simp at hk) (vcR_ok h)
theorem TR.c1 {P : Program} (hP : c.P = P) {d : Option Nat} {f : Nat} {xs : List X} {k : Nat} {o o' : Own} {res : V} (hS : Ctr P f (evVs st xs) [(k, o)] res [(k, o')] []) (hs : evSs true st xs) (hin : own? st.own k = some o)
    (h : vcR c b is (st.stp d { val := res, upd := [(k, none), (k, some o')], rd := [k], new := [] }) (lgs b acc ⟨[k], [k, k]⟩) K) : TR c b (⟨d, none, .call f xs⟩ :: is) st acc K :=
  TR.call [(k, o)] [(k, o')] res [] (by rw [hP]; exact hS) hs (fun k' o'' h => by simp at h; obtain ⟨rfl, rfl⟩ := h; exact hin) (by simp [keysO]) (by simp) h
theorem TR.cv1 {P : Program} (hP : c.P = P) {d : Option Nat} {x : X} {f : Nat} {first cap : List V} {xs : List X} {k : Nat} {o o' : Own} {res : V} (hx : evV st x = .fn (.func f) first cap) (hS : Ctr P f (first ++ (evVs st xs ++ cap)) [(k, o)] res [(k, o')] []) (hsx : evS true st x) (hs : evSs true st xs) (hin : own? st.own k = some o)
    (h : vcR c b is (st.stp d { val := res, upd := [(k, none), (k, some o')], rd := [k], new := [] }) (lgs b acc ⟨[k], [k, k]⟩) K) : TR c b (⟨d, none, .callv x xs⟩ :: is) st acc K :=
  TR.callv [(k, o)] [(k, o')] res [] hx (by rw [hP]; exact hS) hsx hs (fun k' o'' h => by simp at h; obtain ⟨rfl, rfl⟩ := h; exact hin) (by simp [keysO]) (by simp) h
theorem TR.asl {d : Option Nat} {sz n : Nat} {x : X} {cs : List D} (hx : evV st x = .mem cs) (hs : evS true st x) (hl : n * sz ≤ cs.length)
    (h : vcR c b is (st.stp d { val := .d (.sl true sz n (litRow sz cs)), upd := [], rd := [], new := [] }) (lgs b acc ⟨[], []⟩) K) : TR c b (⟨d, none, .asl sz n x⟩ :: is) st acc K :=
  TR.cons { val := .d (.sl true sz n (litRow sz cs)), upd := [], rd := [], new := [] } (valid_asl hx hs hl) (fun k hk => by simp at hk) (vcR_ok h)
theorem TR.split {d : Option Nat} {s : Nat} {want gc : Bool} {q : O} (sp : Stp) (hg : gOf st.env s want = some gc) (hv : gc = true → Valid c ⟨d, none, q⟩ st sp) (hn : gc = true → ∀ k, k ∈ sp.new → k ∉ st.nm)
    (h1 : gc = true → vcR c b is (st.stp d sp) (lgs b acc sp.lg) K) (h2 : gc = false → vcR c b is (st.stp d { val := .un, upd := [], rd := [], new := [] }) (lgs b acc ⟨[], []⟩) K) : TR c b (⟨d, some (s, want), q⟩ :: is) st acc K := by
  cases gc with
  | true => exact TR.cons sp (valid_on hg (hv rfl)) (hn rfl) (vcR_ok (h1 rfl))
  | false => exact TR.cons _ (valid_off hg) (fun k hk => by simp at hk) (vcR_ok (h2 rfl))
end
end Go.Bx
end
section
set_option linter.unusedSimpArgs false
set_option linter.unusedVariables false
namespace Go.Bx
open Go.RowKit
structure Ext (a b : St) : Prop where
  env : ∀ s, get a.env s = get b.env s
  own : ∀ k, own? a.own k = own? b.own k
  nm : ∀ k, k ∈ a.nm ↔ k ∈ b.nm
theorem Ext.refl (a : St) : Ext a a := ⟨fun _ => rfl, fun _ => rfl, fun _ => Iff.rfl⟩
theorem Ext.trans {a b c : St} (h : Ext a b) (k : Ext b c) : Ext a c := ⟨fun s => (h.env s).trans (k.env s), fun s => (h.own s).trans (k.own s), fun s => (h.nm s).trans (k.nm s)⟩
theorem Ext.symm {a b : St} (h : Ext a b) : Ext b a := ⟨fun s => (h.env s).symm, fun s => (h.own s).symm, fun s => (h.nm s).symm⟩
theorem Holds.ext {c : Ctx} {β : Names} {st st1 : St} {a : Act} {w : World} (H : Holds c β st a w) (h : Ext st st1) (hn : (keysO st1.own).Nodup) : Holds c β st1 a w := by
  have hk : ∀ k, k ∈ keysO st1.own ↔ k ∈ keysO st.own := fun k => by rw [key_iff, key_iff, h.own k]
  have hE : Eo c.E0 β st1.own = Eo c.E0 β st.own := by
    funext b
    apply propext
    unfold Eo
    simp only [hk]
  refine ⟨H.sz, H.df, fun s => by rw [hE, ← h.env s]; exact H.env s, ⟨fun k o ho => ?_, hn, fun k k' h1 h2 => H.own.apart k k' ((hk k).1 h1) ((hk k').1 h2), fun k h1 => H.own.lt k ((hk k).1 h1)⟩, fun k h1 => H.fr k ((hk k).1 h1), fun k h1 => (h.nm k).1 (H.kn k ((hk k).1 h1)), fun k h1 => H.nm k (fun h2 => h1 ((h.nm k).1 h2)), H.kp, fun k hk => ⟨(h.nm k).1 (H.fx k hk).1, (H.fx k hk).2⟩⟩
  rw [hE]
  exact H.own.ok k o (own?_mem ((h.own k).trans (mem_own? hn ho)))
def lastU : List (Nat × Option Own) → Nat → Option (Option Own)
  | [], _ => none
  | (k, o) :: l, n =>
    match lastU l n with
    | some r => some r
    | none => if k = n then some o else none
theorem own?_applyU : ∀ (u : List (Nat × Option Own)) {l : List (Nat × Own)}, (keysO l).Nodup → ∀ k, own? (applyU l u) k = (match lastU u k with | some r => r | none => own? l k)
  | [], _, _, _ => rfl
  | (k0, some o) :: u, l, h, k => by
    simp only [applyU, lastU]
    rw [own?_applyU u (nodup_setO h), own?_setO]
    cases hl : lastU u k with
    | some r => rfl
    | none =>
      by_cases e : k0 = k
      · rw [if_pos e.symm, if_pos e]
      · rw [if_neg (fun x => e x.symm), if_neg e]
  | (k0, none) :: u, l, h, k => by
    simp only [applyU, lastU]
    rw [own?_applyU u (nodup_delO h), own?_delO h]
    cases hl : lastU u k with
    | some r => rfl
    | none =>
      by_cases e : k0 = k
      · rw [if_pos e.symm, if_pos e]
      · rw [if_neg (fun x => e x.symm), if_neg e]
theorem lastU_none {u : List (Nat × Option Own)} {k : Nat} (h : k ∉ u.map (·.1)) : lastU u k = none := by
  induction u with
  | nil => rfl
  | cons p u ih =>
    obtain ⟨k0, o⟩ := p
    simp only [List.map_cons, List.mem_cons, not_or] at h
    simp only [lastU, ih h.2]
    rw [if_neg (fun e => h.1 e.symm)]
theorem get_setE (env : List (Nat × V)) (d : Option Nat) (v : V) (s : Nat) : get (setE env d v) s = if d = some s then v else get env s := by
  cases d with
  | none => simp [setE]
  | some d => simp only [setE, get, Option.some.injEq]
def runS (L : Nat → Bool) : Nat → List (Option Nat × Stp) → St → St
  | _, [], st => st
  | j, (d, s) :: l, st => runS L (j + 1) l (if L j then st.stp d s else st)
theorem stp_nodup {st : St} {d : Option Nat} {s : Stp} (h : (keysO st.own).Nodup) : (keysO (st.stp d s).own).Nodup := nodup_applyU _ h
theorem runS_nodup (L : Nat → Bool) : ∀ (l : List (Option Nat × Stp)) (j : Nat) (st : St), (keysO st.own).Nodup → (keysO (runS L j l st).own).Nodup
  | [], _, _, h => h
  | (d, s) :: l, j, st, h => by
    simp only [runS]
    refine runS_nodup L l (j + 1) _ ?_
    split
    · exact stp_nodup h
    · exact h
theorem stp_ext {a b : St} (h : Ext a b) (ha : (keysO a.own).Nodup) (hb : (keysO b.own).Nodup) (d : Option Nat) (s : Stp) : Ext (a.stp d s) (b.stp d s) :=
  ⟨fun k => by simp only [St.stp, get_setE, h.env k], fun k => by simp only [St.stp, own?_applyU _ ha, own?_applyU _ hb, h.own k], fun k => by simp only [St.stp, newN_mem, h.nm k]⟩
theorem runS_ext (L : Nat → Bool) : ∀ (l : List (Option Nat × Stp)) (j : Nat) {a b : St}, Ext a b → (keysO a.own).Nodup → (keysO b.own).Nodup → Ext (runS L j l a) (runS L j l b)
  | [], _, _, _, h, _, _ => h
  | (d, s) :: l, j, a, b, h, ha, hb => by
    simp only [runS]
    split
    · exact runS_ext L l (j + 1) (stp_ext h ha hb d s) (stp_nodup ha) (stp_nodup hb)
    · exact runS_ext L l (j + 1) h ha hb
theorem stp_comm {st : St} (hn : (keysO st.own).Nodup) {d1 d2 : Option Nat} {s1 s2 : Stp} (hd : ∀ x, d1 = some x → d2 ≠ some x) (hu : ∀ k, k ∈ s1.upd.map (·.1) → k ∉ s2.upd.map (·.1)) :
    Ext ((st.stp d1 s1).stp d2 s2) ((st.stp d2 s2).stp d1 s1) := by
  refine ⟨fun k => ?_, fun k => ?_, fun k => ?_⟩
  · simp only [St.stp, get_setE]
    by_cases h1 : d1 = some k
    · have := hd k h1
      simp [h1, this]
    · simp [h1]
  · simp only [St.stp]
    rw [own?_applyU _ (nodup_applyU _ hn), own?_applyU _ hn, own?_applyU _ (nodup_applyU _ hn), own?_applyU _ hn]
    by_cases h1 : k ∈ s1.upd.map (·.1)
    · rw [lastU_none (hu k h1)]
    · rw [lastU_none h1]
  · simp only [St.stp, newN_mem]
    constructor
    · rintro ((h | h) | h)
      · exact .inl (.inl h)
      · exact .inr h
      · exact .inl (.inr h)
    · rintro ((h | h) | h)
      · exact .inl (.inl h)
      · exact .inr h
      · exact .inl (.inr h)
theorem stp_behind (L : Nat → Bool) (d : Option Nat) (s : Stp) : ∀ (l : List (Option Nat × Stp)) (j : Nat) (st : St), (keysO st.own).Nodup →
    (∀ i d' s', l[i]? = some (d', s') → L (j + i) = true → (∀ x, d = some x → d' ≠ some x) ∧ ∀ k, k ∈ s.upd.map (·.1) → k ∉ s'.upd.map (·.1)) →
    Ext ((runS L j l st).stp d s) (runS L j l (st.stp d s))
  | [], _, st, _, _ => Ext.refl _
  | (d', s') :: l, j, st, hn, h => by
    have ht : ∀ i d2 s2, l[i]? = some (d2, s2) → L (j + 1 + i) = true → (∀ x, d = some x → d2 ≠ some x) ∧ ∀ k, k ∈ s.upd.map (·.1) → k ∉ s2.upd.map (·.1) := fun i d2 s2 hi hL => by
      have := h (i + 1) d2 s2 (by simpa using hi) (by rw [show j + (i + 1) = j + 1 + i by omega]; exact hL)
      exact this
    simp only [runS]
    by_cases hL : L j = true
    · simp only [hL, if_true]
      obtain ⟨h1, h2⟩ := h 0 d' s' (by simp) (by simpa using hL)
      refine (stp_behind L d s l (j + 1) _ (stp_nodup hn) ht).trans ?_
      refine runS_ext L l (j + 1) ?_ (stp_nodup (stp_nodup hn)) (stp_nodup (stp_nodup hn))
      refine (stp_comm hn (fun x hx => ?_) (fun k hk hk2 => ?_))
      · intro e; exact h1 x e hx
      · exact h2 k hk2 hk
    · simp only [hL]
      exact stp_behind L d s l (j + 1) st hn ht
theorem runS_more (L : Nat → Bool) {J : Nat} (hJ : L J = false) : ∀ (l : List (Option Nat × Stp)) (j : Nat) (st : St) (d : Option Nat) (s : Stp), (keysO st.own).Nodup → j ≤ J → l[J - j]? = some (d, s) →
    (∀ i d' s', J < i → l[i - j]? = some (d', s') → L i = true → (∀ x, d = some x → d' ≠ some x) ∧ ∀ k, k ∈ s.upd.map (·.1) → k ∉ s'.upd.map (·.1)) →
    Ext ((runS L j l st).stp d s) (runS (fun i => L i || i == J) j l st)
  | [], j, st, d, s, _, _, hg, _ => by simp at hg
  | (d0, s0) :: l, j, st, d, s, hn, hj, hg, h => by
    by_cases e : j = J
    · subst e
      simp at hg
      obtain ⟨rfl, rfl⟩ := hg
      simp only [runS, hJ, Bool.false_or, beq_self_eq_true, if_true, Bool.false_eq_true, if_false]
      refine (stp_behind L d0 s0 l (j + 1) st hn (fun i d' s' hi hL => h (j + 1 + i) d' s' (by omega) (by rw [show j + 1 + i - j = i + 1 by omega]; simpa using hi) hL)).trans ?_
      have : ∀ (l : List (Option Nat × Stp)) (j' : Nat) (st : St), j < j' → runS L j' l st = runS (fun i => L i || i == j) j' l st := by
        intro l
        induction l with
        | nil => intro _ _ _; rfl
        | cons p l ih =>
          intro j' st hlt
          obtain ⟨d, s⟩ := p
          simp only [runS]
          have : (j' == j) = false := by simp; omega
          simp only [this, Bool.or_false]
          exact ih (j' + 1) _ (by omega)
      rw [this l (j + 1) _ (by omega)]
      exact Ext.refl _
    · have hlt : j < J := by omega
      simp only [runS]
      have hne : (j == J) = false := by simp; exact e
      simp only [hne, Bool.or_false]
      have hg' : l[J - (j + 1)]? = some (d, s) := by
        rw [show J - j = (J - (j + 1)) + 1 by omega] at hg
        simpa using hg
      refine runS_more L hJ l (j + 1) _ d s ?_ (by omega) hg' (fun i d' s' hi hl => h i d' s' hi (by rw [show i - j = (i - (j + 1)) + 1 by omega]; simpa using hl))
      split
      · exact stp_nodup hn
      · exact hn
theorem runS_get {L1 L2 : Nat → Bool} {k : Nat} : ∀ (l : List (Option Nat × Stp)) (j : Nat) (a b : St), get a.env k = get b.env k → (∀ i d s, l[i]? = some (d, s) → d = some k → L1 (j + i) = L2 (j + i)) →
    get (runS L1 j l a).env k = get (runS L2 j l b).env k
  | [], _, _, _, h, _ => h
  | (d, s) :: l, j, a, b, h, hL => by
    simp only [runS]
    refine runS_get l (j + 1) _ _ ?_ (fun i d' s' hi hk => by have := hL (i + 1) d' s' (by simpa using hi) hk; rwa [show j + (i + 1) = j + 1 + i by omega] at this)
    by_cases hd : d = some k
    · have := hL 0 d s (by simp) hd
      simp only [Nat.add_zero] at this
      rw [this]
      split
      · simp only [St.stp, get_setE, hd, if_true]
      · exact h
    · have : ∀ (x : St), get (x.stp d s).env k = get x.env k := fun x => by simp [St.stp, get_setE, hd]
      split <;> split <;> simp only [this, h]
theorem runS_own {L1 L2 : Nat → Bool} {k : Nat} : ∀ (l : List (Option Nat × Stp)) (j : Nat) (a b : St), (keysO a.own).Nodup → (keysO b.own).Nodup → own? a.own k = own? b.own k → (∀ i d s, l[i]? = some (d, s) → k ∈ s.upd.map (·.1) → L1 (j + i) = L2 (j + i)) →
    own? (runS L1 j l a).own k = own? (runS L2 j l b).own k
  | [], _, _, _, _, _, h, _ => h
  | (d, s) :: l, j, a, b, ha, hb, h, hL => by
    simp only [runS]
    refine runS_own l (j + 1) _ _ ?_ ?_ ?_ (fun i d' s' hi hk => by have := hL (i + 1) d' s' (by simpa using hi) hk; rwa [show j + (i + 1) = j + 1 + i by omega] at this)
    · split
      · exact stp_nodup ha
      · exact ha
    · split
      · exact stp_nodup hb
      · exact hb
    by_cases hd : k ∈ s.upd.map (·.1)
    · have := hL 0 d s (by simp) hd
      simp only [Nat.add_zero] at this
      rw [this]
      split
      · simp only [St.stp, own?_applyU _ ha, own?_applyU _ hb, h]
      · exact h
    · have : ∀ (x : St), (keysO x.own).Nodup → own? (x.stp d s).own k = own? x.own k := fun x hx => by simp only [St.stp, own?_applyU _ hx, lastU_none hd]
      split <;> split <;> simp only [this _ ha, this _ hb, h]
theorem runS_nm {L : Nat → Bool} {k : Nat} : ∀ (l : List (Option Nat × Stp)) (j : Nat) (a : St), k ∈ (runS L j l a).nm ↔ k ∈ a.nm ∨ ∃ i d s o, l[i]? = some (d, s) ∧ L (j + i) = true ∧ (k, some o) ∈ s.upd
  | [], _, _ => by simp [runS]
  | (d, s) :: l, j, a => by
    simp only [runS]
    rw [runS_nm l (j + 1)]
    constructor
    · rintro (h | ⟨i, d', s', o, h1, h2, h3⟩)
      · split at h
        · rename_i hL
          simp only [St.stp, newN_mem] at h
          rcases h with h | ⟨o, h⟩
          · exact .inl h
          · exact .inr ⟨0, d, s, o, by simp, by simpa using hL, h⟩
        · exact .inl h
      · exact .inr ⟨i + 1, d', s', o, by simpa using h1, by rwa [show j + (i + 1) = j + 1 + i by omega], h3⟩
    · rintro (h | ⟨i, d', s', o, h1, h2, h3⟩)
      · left
        split
        · simp only [St.stp, newN_mem]; exact .inl h
        · exact h
      · cases i with
        | zero =>
          simp at h1
          obtain ⟨rfl, rfl⟩ := h1
          left
          simp only [Nat.add_zero] at h2
          rw [if_pos h2]
          simp only [St.stp, newN_mem]
          exact .inr ⟨o, h3⟩
        | succ i => exact .inr ⟨i, d', s', o, by simpa using h1, by rwa [show j + 1 + i = j + (i + 1) by omega], h3⟩
theorem runS_all : ∀ {c : Ctx} {st : St} {is : List I} {ss : List Stp} {st' : St}, Trace c st is ss st' → ∀ (L : Nat → Bool) (j : Nat), (∀ i, i < is.length → L (j + i) = true) → runS L j ((is.map (·.dst)).zip ss) st = st' := by
  intro c st is ss st' h
  induction h with
  | nil st => intro L j _; rfl
  | cons st i s is ss st' hv hn _ ih =>
    intro L j hL
    simp only [List.map_cons, List.zip_cons_cons, runS]
    have h0 := hL 0 (by simp)
    simp only [Nat.add_zero] at h0
    rw [if_pos h0]
    exact ih L (j + 1) (fun i hi => by have := hL (i + 1) (by simp; omega); rwa [show j + (i + 1) = j + 1 + i by omega] at this)
theorem trace_len {c : Ctx} {st : St} {is : List I} {ss : List Stp} {st' : St} (h : Trace c st is ss st') : ss.length = is.length := by
  induction h with
  | nil => rfl
  | cons _ _ _ _ _ _ _ _ _ ih => simp [ih]
theorem trace_at {c : Ctx} {st : St} {is : List I} {ss : List Stp} {st' : St} (h : Trace c st is ss st') : ∀ (j : Nat) (i : I) (s : Stp) (j0 : Nat) (L : Nat → Bool), is[j]? = some i → ss[j]? = some s → (∀ x, x < j → L (j0 + x) = true) → (∀ x, j ≤ x → L (j0 + x) = false) →
    Valid c i (runS L j0 ((is.map (·.dst)).zip ss) st) s ∧ ∀ k, k ∈ s.new → k ∉ (runS L j0 ((is.map (·.dst)).zip ss) st).nm := by
  induction h with
  | nil st => intro j i s j0 L hi; simp at hi
  | cons st i0 s0 is ss st' hv hn _ ih =>
    intro j i s j0 L hi hs h1 h2
    simp only [List.map_cons, List.zip_cons_cons, runS]
    cases j with
    | zero =>
      simp at hi hs
      subst hi; subst hs
      have h0 := h2 0 (by omega)
      simp only [Nat.add_zero] at h0
      rw [if_neg (by rw [h0]; simp)]
      have hrest : ∀ (l : List (Option Nat × Stp)) (j' : Nat), j0 ≤ j' → runS L j' l st = st := by
        intro l
        induction l with
        | nil => intro _ _; rfl
        | cons p l ih2 =>
          intro j' hj
          obtain ⟨d, s⟩ := p
          simp only [runS]
          have := h2 (j' - j0) (by omega)
          rw [show j0 + (j' - j0) = j' by omega] at this
          rw [if_neg (by rw [this]; simp)]
          exact ih2 (j' + 1) (by omega)
      rw [hrest _ (j0 + 1) (by omega)]
      exact ⟨hv, hn⟩
    | succ j =>
      simp at hi hs
      have h0 := h1 0 (by omega)
      simp only [Nat.add_zero] at h0
      rw [if_pos h0]
      exact ih j i s (j0 + 1) L hi hs (fun x hx => by have := h1 (x + 1) (by omega); rwa [show j0 + (x + 1) = j0 + 1 + x by omega] at this) (fun x hx => by have := h2 (x + 1) (by omega); rwa [show j0 + (x + 1) = j0 + 1 + x by omega] at this)
end Go.Bx
end
