/-
  The engine, part 13: the operations, compiled; each compiled operation does what the model's does.
-/
import Derived.Test.YthkfedghiklmeaaEng12
namespace Go.Bx
open Go.RowKit

def isAggV : Value → Bool
  | .agg _ => true
  | _ => false

def aggZ (P : Program) (t : TypeId) : Bool :=
  match P.info? t with
  | some i => match i.zero with
    | some z => isAggV z
    | none => false
  | none => false

def toDsO (P : Program) (e : TypeId) : Option (List D) := (zeroB P e).bind toDs

def cBuiltin (P : Program) (b : Builtin) (args : List Operand) (ts : List TypeId) : Option O :=
  match b with
  | .len =>
    match args, ts with
    | [x], [t] =>
      match P.underlying t, cX x with
      | some (.slice _), some x => some (.len x)
      | some (.array n _), some _ => some (.mov (.k (.d (.int .i64 n))))
      | _, _ => none
    | _, _ => none
  | .max =>
    match args with
    | [x, y] =>
      match cX x, cX y with
      | some x, some y => some (.mm true x y)
      | _, _ => none
    | _ => none
  | .min =>
    match args with
    | [x, y] =>
      match cX x, cX y with
      | some x, some y => some (.mm false x y)
      | _, _ => none
    | _ => none
  | .append =>
    match args, ts with
    | [x, y], [t, t'] =>
      match P.underlying t, cX x, cX y with
      | some (.slice e), some x, some y =>
        match P.info? e, zeroB P e with
        | some i, some z => if t = t' ∧ z.length = i.size then some (.app e i.size i.bytes x y) else none
        | _, _ => none
      | _, _, _ => none
    | _, _ => none
  | .copy =>
    match args, ts with
    | [x, y], [t, _] =>
      match P.underlying t, cX x, cX y with
      | some (.slice e), some x, some y => (szB P e).map fun sz => .cpy sz x y
      | _, _, _ => none
    | _, _ => none
  | _ => none

def cCall (P : Program) (cl : Call) : Option O :=
  match cl.callee with
  | .builtin b => cBuiltin P b cl.args.toList cl.argTypes.toList
  | .value (.func f) => (cXs cl.args.toList).map (.call f)
  | .value x =>
    match cX x, cXs cl.args.toList with
    | some x, some xs => some (.callv x xs)
    | _, _ => none
  | .invoke _ _ => none

/-- One operation, compiled (but calls of functions). -/
def cOp (P : Program) (o : Oper) : Option O :=
  match o.op with
  | .move x => (cX x).map .mov
  | .assign x => (cX x).map .mov
  | .pick x y z =>
    match cX x, cX y, cX z with
    | some x, some y, some z => some (.pick x y z)
    | _, _, _ => none
  | .alloc e => (zeroB P e).map (.alloc e)
  | .box e x => (cX x).map (.box e)
  | .build t ps =>
    match P.underlying t, zeroB P t with
    | some (.struct fs), some z =>
      match placesB P fs.toList with
      | some pl => if aggZ P t then (cParts (fun (i : Nat) => pl[i]?) ps.toList).map (.build z) else none
      | none => none
    | some (.array _ e), some z =>
      match szB P e with
      | some sz => if aggZ P t then (cParts (fun i => some (i * sz, sz)) ps.toList).map (.build z) else none
      | none => none
    | _, _ => none
  | .buildSlice t len ps =>
    match P.underlying t with
    | some (.slice e) =>
      match szB P e, zeroB P e, cXs (ps.toList.map (·.2)) with
      | some sz, some _, some xs => if 0 < sz ∧ ps.size = len ∧ ps.toList.map (·.1) = List.range len ∧ len * sz ≤ 16777216 then some (.bslice e sz len xs) else none
      | _, _, _ => none
    | _ => none
  | .load t x =>
    match szB P t, aggB P t, cX x with
    | some sz, some agg, some x => if agg = false → sz = 1 then some (.load sz agg x) else none
    | _, _, _ => none
  | .store t x y =>
    match szB P t, cX x, cX y with
    | some sz, some x, some y => some (.store sz x y)
    | _, _, _ => none
  | .binOp op t x y0 _ =>
    match P.underlying t, cX x, cX y0 with
    | some (.int _), some x, some y =>
      match op with
      | .shl => some (.shf true x y)
      | .shr => some (.shf false x y)
      | op => some (.bin op x y)
    | some .bool, some x, some y =>
      match op with
      | .eql => some (.beq false x y)
      | .neq => some (.beq true x y)
      | _ => none
    | some (.slice _), some x, some _ =>
      match y0, op with
      | .const (.slice none 0 0), .eql => some (.isnil false x)
      | .const (.slice none 0 0), .neq => some (.isnil true x)
      | _, _ => none
    | some _, some x, some y =>
      match aggB P t, leaves P 100 t 0 with
      | some true, some lv => if P.eqGuardType P.depth t = false then
          match op with
          | .eql => some (.eqa false (P.cellsOf t) lv x y)
          | .neq => some (.eqa true (P.cellsOf t) lv x y)
          | _ => none
        else none
      | _, _ => none
    | _, _, _ => none
  | .unOp op _ x => (cX x).map (.inv op)
  | .convert s t x =>
    match P.underlying s, P.underlying t, cX x with
    | some (.int _), some (.int k), some x => some (.conv k x)
    | _, _, _ => none
  | .nilCheck x => (cX x).map .nilc
  | .fieldAddr t x f =>
    match P.underlying t, cX x with
    | some (.struct fs), some x =>
      match fs[f]? with
      | some fd =>
        match szB P fd.type with
        | some sz => if sz ≠ 0 then some (.fadr fd.offset x) else none
        | none => none
      | none => none
    | _, _ => none
  | .field t x f =>
    match P.underlying t, cX x with
    | some (.struct fs), some x =>
      match fs[f]? with
      | some fd =>
        match szB P fd.type, aggB P fd.type with
        | some sz, some agg => if agg = false → sz = 1 then some (.fld fd.offset sz agg x) else none
        | _, _ => none
      | none => none
    | _, _ => none
  | .indexAddr t x i =>
    match P.underlying t, cX x, cX i with
    | some (.slice e), some x, some i => (szB P e).map fun sz => .iadr sz x i
    | some (.array n e), some x, some i => (szB P e).map fun sz => .aadr sz n x i
    | _, _, _ => none
  | .index t x0 i =>
    match P.underlying t, cX x0, cX i with
    | some (.array n e), some x, some i =>
      match szB P e, aggB P e with
      | some sz, some agg => if agg = false → sz = 1 then some (.idx sz n agg x i) else none
      | _, _ => none
    | some .string, none, some i =>
      match x0 with
      | .const (.string s) => some (.sidx s i)
      | _ => none
    | _, _, _ => none
  | .extract x i => (cX x).map (.ext i)
  | .makeFunc f fi ca =>
    match cXs fi.toList, cXs ca.toList with
    | some xs, some ys => some (.mkfn f xs ys)
    | _, _ => none
  | .makeSlice t l k =>
    match P.underlying t, cX l, cX k with
    | some (.slice e), some l, some k =>
      match P.info? e, toDsO P e with
      | some i, some zd => if zd.length = i.size then some (.mks e i.size i.bytes zd l k) else none
      | _, _ => none
    | _, _, _ => none
  | .slice t x lo hi mx =>
    match P.underlying t, cX x with
    | some (.slice e), some x =>
      match szB P e, cX? lo, cX? hi, cX? mx with
      | some sz, some lo, some hi, some mx => some (.slc sz x lo hi mx)
      | _, _, _, _ => none
    | some (.array n e), some x =>
      match szB P e, lo, hi, mx with
      | some sz, none, none, none => some (.asl sz n x)
      | _, _, _, _ => none
    | _, _ => none
  | .call cl => cCall P cl
  | _ => none

def makes : O → Bool
  | .alloc _ _ => true
  | .box _ _ => true
  | .bslice _ _ _ _ => true
  | .mks _ _ _ _ _ _ => true
  | .app _ _ _ _ _ => true
  | _ => false
def isStore : O → Bool
  | .store _ _ _ => true
  | _ => false
def isCall : O → Bool
  | .call _ _ => true
  | .callv _ _ => true
  | .mkifc _ _ => true
  | .asl _ _ _ => true
  | _ => false

theorem zero_of {P : Program} {e : TypeId} {i : TypeInfo} {cs : List V} (hi : P.info? e = some i) (h : zeroB P e = some cs) : ∃ z, i.zero = some z ∧ cVs z.cells.toList = some cs := by
  unfold zeroB at h
  simp only [hi, Option.bind_some] at h
  cases hz : i.zero with
  | none => simp [hz] at h
  | some z => simp only [hz] at h; exact ⟨z, rfl, h⟩

theorem aggZ_ok {P : Program} {t : TypeId} (h : aggZ P t = true) : ∀ i zv, P.info? t = some i → i.zero = some zv → ∃ zc, zv = .agg zc := by
  intro i zv hi hz
  simp only [aggZ, hi, hz] at h
  cases zv <;> simp [isAggV] at h
  exact ⟨_, rfl⟩

section
variable {c : Ctx} {β : Names} {st : St} {a : Act} {w : World} {o : Oper}

theorem op_ok {q : O} (hc : cOp c.P o = some q) (H : Holds c β st a w) (hd : ∀ d, o.dst = some d → d < c.nt) (hmk : makes q = true → o.dst.isSome = true) (hst : isStore q = true → o.dst = none) (hcall : isCall q = false)
    (hs : (opR st true (o.dst.getD 0) q).side) : Runs c β (st.app o.dst (opR st true (o.dst.getD 0) q)) a o w := by
  have hdm : makes q = true → o.dst = some (o.dst.getD 0) := fun h => by
    have := hmk h
    cases ho : o.dst with
    | none => simp [ho] at this
    | some d => rfl
  unfold cOp at hc
  split at hc
  · rename_i x ho
    obtain ⟨y, hx, rfl⟩ := Option.map_eq_some_iff.1 hc
    exact s_mov H hd (.inl ho) hx hs
  · rename_i x ho
    obtain ⟨y, hx, rfl⟩ := Option.map_eq_some_iff.1 hc
    exact s_mov H hd (.inr ho) hx hs
  · rename_i x y z ho
    split at hc
    · rename_i hx hy hz
      cases hc
      exact s_pick H hd ho hx hy hz hs
    · cases hc
  · rename_i e ho
    obtain ⟨z, hz, rfl⟩ := Option.map_eq_some_iff.1 hc
    have h1 := hdm rfl
    exact s_alloc H h1 (hd _ h1) ho hz hs
  · rename_i e x ho
    obtain ⟨y, hx, rfl⟩ := Option.map_eq_some_iff.1 hc
    have h1 := hdm rfl
    exact s_box H h1 (hd _ h1) ho hx hs
  · rename_i t ps ho
    split at hc
    · rename_i fs z ht hz
      split at hc
      · rename_i pl hpl
        split at hc
        · rename_i hag
          obtain ⟨parts, hp, rfl⟩ := Option.map_eq_some_iff.1 hc
          exact s_build H hd ho hz hp (build_struct ht hpl) (aggZ_ok hag) hs
        · cases hc
      · cases hc
    · rename_i n e z ht hz
      split at hc
      · rename_i sz hsz
        split at hc
        · rename_i hag
          obtain ⟨parts, hp, rfl⟩ := Option.map_eq_some_iff.1 hc
          exact s_build H hd ho hz hp (build_array ht hsz) (aggZ_ok hag) hs
        · cases hc
      · cases hc
    · cases hc
  · rename_i t len ps ho
    split at hc
    · rename_i e ht
      split at hc
      · rename_i sz zc xs hz hzero hx
        split at hc
        · rename_i hh
          cases hc
          have h1 := hdm rfl
          exact s_bslice H h1 (hd _ h1) ho ht hz hzero hh.2.1 hh.2.2.1 hx hh.2.2.2 hs
        · cases hc
      · cases hc
    · cases hc
  · rename_i t x ho
    split at hc
    · rename_i sz agg x hz hag hx
      split at hc
      · rename_i h1
        cases hc
        exact s_load H hd ho hz hag h1 hx hs
      · cases hc
    · cases hc
  · rename_i t x y ho
    split at hc
    · rename_i sz x y hz hx hy
      cases hc
      exact s_store H (hst rfl) ho hz hx hy hs
    · cases hc
  · rename_i op t x y t' ho
    split at hc
    · rename_i k x y ht hx hy
      split at hc
      · cases hc
        exact s_shf (left := true) H hd ho hx hy hs
      · cases hc
        exact s_shf (left := false) H hd ho hx hy hs
      · cases hc
        exact s_bin H hd ho hx hy hs
    · rename_i x y ht hx hy
      split at hc
      · cases hc
        exact s_beq (neg := false) H hd ho ht hx hy hs
      · cases hc
        exact s_beq (neg := true) H hd ho ht hx hy hs
      · cases hc
    · rename_i e x y1 ht hx hy
      split at hc
      · cases hc
        exact s_isnil (neg := false) H hd ho ht hx hs
      · cases hc
        exact s_isnil (neg := true) H hd ho ht hx hs
      · cases hc
    · rename_i dd x y _ _ _ ht hx hy
      split at hc
      · rename_i lv hag hlv
        split at hc
        · rename_i hg
          split at hc
          · cases hc
            exact s_eqa (neg := false) H hd ho hag hg hlv hx hy hs
          · cases hc
            exact s_eqa (neg := true) H hd ho hag hg hlv hx hy hs
          · cases hc
        · cases hc
      · cases hc
    · cases hc
  · rename_i op t x ho
    obtain ⟨y, hx, rfl⟩ := Option.map_eq_some_iff.1 hc
    exact s_inv H hd ho hx hs
  · rename_i s t x ho
    split at hc
    · rename_i k k' x h1 h2 hx
      cases hc
      exact s_conv H hd ho h2 h1 hx hs
    · cases hc
  · rename_i x ho
    obtain ⟨y, hx, rfl⟩ := Option.map_eq_some_iff.1 hc
    exact s_nilc H hd ho hx hs
  · rename_i t x f ho
    split at hc
    · rename_i fs x ht hx
      split at hc
      · rename_i fd hf
        split at hc
        · rename_i sz hz
          split at hc
          · rename_i h0
            cases hc
            exact s_fadr H hd ho ht hf rfl hz h0 hx hs
          · cases hc
        · cases hc
      · cases hc
    · cases hc
  · rename_i t x f ho
    split at hc
    · rename_i fs x ht hx
      split at hc
      · rename_i fd hf
        split at hc
        · rename_i sz agg hz hag
          split at hc
          · rename_i h1
            cases hc
            exact s_fld H hd ho ht hf rfl hz hag h1 hx hs
          · cases hc
        · cases hc
      · cases hc
    · cases hc
  · rename_i t x i ho
    split at hc
    · rename_i e x i ht hx hi
      obtain ⟨sz, hz, rfl⟩ := Option.map_eq_some_iff.1 hc
      exact s_iadr H hd ho ht hz hx hi hs
    · rename_i n e x i ht hx hi
      obtain ⟨sz, hz, rfl⟩ := Option.map_eq_some_iff.1 hc
      exact s_aadr H hd ho ht hz hx hi hs
    · cases hc
  · rename_i t x i ho
    split at hc
    · rename_i n e x i ht hx hi
      split at hc
      · rename_i sz agg hz hag
        split at hc
        · rename_i h1
          cases hc
          exact s_idx H hd ho ht hz hag h1 hx hi hs
        · cases hc
      · cases hc
    · rename_i i ht hx hi
      split at hc
      · rename_i s
        cases hc
        exact s_sidx H hd ho ht hi hs
      · cases hc
    · cases hc
  · rename_i x i ho
    obtain ⟨y, hx, rfl⟩ := Option.map_eq_some_iff.1 hc
    exact s_ext H hd ho hx hs
  · rename_i f fi ca ho
    split at hc
    · rename_i xs ys h1 h2
      cases hc
      exact s_mkfn H hd ho h1 h2 hs
    · cases hc
  · rename_i t l k ho
    split at hc
    · rename_i e l k ht hl hk
      split at hc
      · rename_i i zd hi hzd
        split at hc
        · rename_i hlen
          cases hc
          have h1 := hdm rfl
          obtain ⟨cs, hzb, hds⟩ := Option.bind_eq_some_iff.1 hzd
          obtain ⟨z, hz, hcs⟩ := zero_of hi hzb
          have hds' := toDs_some hds
          obtain ⟨q1, _⟩ := cVs_cells (β := β) (E := Eo c.E0 β st.own) (w := w) (arr := z.cells) hcs
          exact s_mks H h1 (hd _ h1) ho ht hi hz rfl rfl (by rw [q1, hds']; simpa using hlen) (by rw [hcs, hds']) hl hk hs
        · cases hc
      · cases hc
    · cases hc
  · rename_i t x lo hi mx ho
    split at hc
    · rename_i e x ht hx
      split at hc
      · rename_i sz lo hi mx hz h1 h2 h3
        cases hc
        exact s_slc H hd ho ht hz hx h1 h2 h3 hs
      · cases hc
    · rename_i n e x ht hx
      split at hc
      · rename_i sz hz
        cases hc
        simp [isCall] at hcall
      · cases hc
    · cases hc
  · rename_i cl ho
    obtain ⟨callee, args, ts⟩ := cl
    unfold cCall at hc
    split at hc
    · rename_i b hb
      simp only at hb hc
      subst hb
      unfold cBuiltin at hc
      split at hc
      · split at hc
        · rename_i x t ha hts
          have ha : args = #[x] := Array.ext' ha
          have hts : ts = #[t] := Array.ext' hts
          subst ha; subst hts
          split at hc
          · rename_i e x ht hx
            cases hc
            exact s_len H hd ho ht hx hs
          · rename_i n e x ht hx
            cases hc
            simp only [opR] at hs ⊢
            refine Runs.val H hd (v := .int .i64 n) (by simp [execOp, ho, resolve, invoke, builtin, Builtin.len_, run_underlying ht, goInt]) (mk_int _ _)
          · cases hc
        · cases hc
      · split at hc
        · rename_i x y ha
          have ha : args = #[x, y] := Array.ext' ha
          subst ha
          split at hc
          · rename_i x y hx hy
            cases hc
            exact s_mm (mx := true) H hd ho hx hy hs
          · cases hc
        · cases hc
      · split at hc
        · rename_i x y ha
          have ha : args = #[x, y] := Array.ext' ha
          subst ha
          split at hc
          · rename_i x y hx hy
            cases hc
            exact s_mm (mx := false) H hd ho hx hy hs
          · cases hc
        · cases hc
      · split at hc
        · rename_i x y t t' ha hts
          have ha : args = #[x, y] := Array.ext' ha
          have hts : ts = #[t, t'] := Array.ext' hts
          subst ha; subst hts
          split at hc
          · rename_i e x y ht hx hy
            split at hc
            · rename_i i zc hi hzb
              split at hc
              · rename_i hh
                cases hc
                obtain ⟨rfl, hlen⟩ := hh
                have h1 := hdm rfl
                obtain ⟨z, hz, hcs⟩ := zero_of hi hzb
                obtain ⟨q1, _⟩ := cVs_cells (β := β) (E := Eo c.E0 β st.own) (w := w) (arr := z.cells) hcs
                exact s_app H h1 (hd _ h1) ho ht hi hz rfl rfl (by rw [q1]; exact hlen) hx hy hs
              · cases hc
            · cases hc
          · cases hc
        · cases hc
      · split at hc
        · rename_i x y t t' ha hts
          have ha : args = #[x, y] := Array.ext' ha
          have hts : ts = #[t, t'] := Array.ext' hts
          subst ha; subst hts
          split at hc
          · rename_i e x y ht hx hy
            obtain ⟨sz, hz, rfl⟩ := Option.map_eq_some_iff.1 hc
            exact s_cpy H hd ho ht hz hx hy hs
          · cases hc
        · cases hc
      · cases hc
    · obtain ⟨xs, hx, rfl⟩ := Option.map_eq_some_iff.1 hc
      simp [isCall] at hcall
    · split at hc
      · cases hc
        simp [isCall] at hcall
      · cases hc
    · cases hc
  · cases hc

end
end Go.Bx
