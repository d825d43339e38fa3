import Derived.Test.YtgpckelpmincmaaXF4
section
set_option linter.unusedSimpArgs false
set_option linter.unusedVariables false
namespace Go.Bx
open Go.RowKit
def mth (P : Program) (t : TypeId) (name : String) : Option (FuncId × Bool) :=
  match P.info? t with
  | some i =>
    match i.methods.find? (·.name == name) with
    | some m => if m.path = #[] then m.func else none
    | none => none
  | none => none
theorem mth_ok {P : Program} {t : TypeId} {name : String} {r : FuncId × Bool} (h : mth P t name = some r) : ∃ i m, P.info? t = some i ∧ i.methods.find? (·.name == name) = some m ∧ m.path = #[] ∧ m.func = some r := by
  unfold mth at h
  split at h
  · rename_i i hi
    split at h
    · rename_i m hm
      split at h
      · rename_i hp
        exact ⟨i, m, hi, hm, hp, h⟩
      · cases h
    · cases h
  · cases h
theorem depth_pos (P : Program) : ∃ n, P.types.size + Made.depth = n + 1 := ⟨P.types.size + (Made.depth - 1), by simp [Made.depth]⟩
theorem run_method_ptr {P : Program} {t e : TypeId} {name : String} {f : FuncId} {v : Value} {w : World} (h : mth P t name = some (f, true)) (ht : P.underlying t = some (.pointer e)) (hok : okF P f = true) (args : Array Value) :
    (callMethod (.iface t v) name args).run P w = .ok (.enter f (#[v] ++ args)) w := by
  obtain ⟨i, m, hi, hm, hp, hf⟩ := mth_ok h
  obtain ⟨n, hn⟩ := depth_pos P
  simp only [callMethod, Sem.run_bind, run_program, Result.andThen_ok, hn, method, typeInfo, hi, hm, hp, hf, follow, receiverAt, run_underlying ht, Place.get, Sem.run_pure]
  exact run_callFunc hok _
theorem run_method_val {P : Program} {t e : TypeId} {name : String} {f : FuncId} {a : Addr} {v : Value} {w : World} (h : mth P t name = some (f, false)) (ht : P.underlying t = some (.pointer e)) (hok : okF P f = true) (hl : (loadVar e a).run P w = .ok v w) (args : Array Value) :
    (callMethod (.iface t (.pointer (some a))) name args).run P w = .ok (.enter f (#[v] ++ args)) w := by
  obtain ⟨i, m, hi, hm, hp, hf⟩ := mth_ok h
  obtain ⟨n, hn⟩ := depth_pos P
  have hw : ∀ (s : String), (Builtin.ssaWrapNilChk_ #[t] t #[.pointer (some a), strVal "", strVal s]).run P w = .ok (.pointer (some a)) w := fun s => rfl
  have he : (#[] : Array FieldStep).isEmpty = true := rfl
  simp only [callMethod, Sem.run_bind, run_program, Result.andThen_ok, hn, method, typeInfo, hi, hm, hp, hf, follow, receiverAt, run_underlying ht, Place.get, Sem.run_pure, he, if_true, hw, asAddr, hl]
  exact run_callFunc hok _
section
variable {c : Ctx} {b : Bool} {is : List I} {st : St} {acc : List Lg} {K : List Lg → St → Prop}
theorem valid_iv {d : Option Nat} {name : String} {x : X} {t e : TypeId} {xv : V} {f : Nat} {xs : List X} {ins outs : List (Nat × Own)} {res : V} {new : List Nat} (hx : evV st x = .ifc t xv) (hm : mth c.P t name = some (f, true)) (ht : c.P.underlying t = some (.pointer e))
    (hS : Ctr c.P f (xv :: evVs st xs) ins res outs new) (hsx : evS true st x) (hs : evSs true st xs) (hin : ∀ k o, (k, o) ∈ ins → own? st.own k = some o) (hno : (keysO ins).Nodup) :
    Valid c ⟨d, none, .ivk name x xs⟩ st { val := res, upd := callU ins outs, rd := keysO ins, new := new } := by
  intro st1 h1 h2 h3 ops o hc β a w H Q K hK
  have hcg := hc.gd
  have hg : o.guard = none := by
    cases hg : o.guard with
    | none => rfl
    | some jw => simp only [hg] at hcg; obtain ⟨s, _, h⟩ := hcg; cases h
  rw [if_pos (by simp [Region.wanted, hg])]
  have hsl : ∀ k, k ∈ xsSlots xs → get st1.env k = get st.env k := fun k hk => h1 k (by simp [I.slots, O.slots, hk])
  have hslx : ∀ k, k ∈ x.slots → get st1.env k = get st.env k := fun k hk => h1 k (by simp [I.slots, O.slots, hk])
  have e1 := evVs_congr hsl
  have e2 := evSs_congr (p := true) hsl
  obtain ⟨cl, hcl, hcc⟩ := cOp_call hc.op rfl (by simp)
  obtain ⟨ox, h4, hox, h5⟩ := cCall_ivk hcc
  obtain ⟨q1, q2⟩ := evVs_ok H h5 (by rw [e2]; exact hs)
  rw [e1] at q1 q2
  have hv0 := evV_ok H hox (by rw [evS_congr hslx]; exact hsx)
  rw [evV_congr hslx, hx] at hv0
  generalize hu : a.eval ox = u at *
  cases hv0 with
  | ifc _ v _ hv =>
    have hrun : (execOp a.eval o).run c.P w = .ok (.enter f (#[v] ++ cl.args.map a.eval)) w := by
      have hcf := run_method_ptr (v := v) (w := w) hm ht hS.1 (cl.args.map a.eval)
      have hx : ((#[Value.iface t v] ++ cl.args.map a.eval : Array Value).extract 1 (#[Value.iface t v] ++ cl.args.map a.eval : Array Value).size) = cl.args.map a.eval := by simp [Array.extract_append]
      simp only [execOp, hcl, resolve, h4, hu, invoke, Sem.run_bind, Sem.run_pure, Result.andThen_ok]
      have h0 : (#[Value.iface t v] ++ cl.args.map a.eval : Array Value)[0]? = some (.iface t v) := by rw [Array.getElem?_append_left (by simp)]; rfl
      simp only [h0, hx]
      exact hcf
    have hl : cl.args.size = (evVs st xs).length := by simpa using q1
    refine call_wp H hS hc.dst hc.lt hno (fun k o h => by rw [h2 k (mem_keys h)]; exact hin k o h) h3 hrun (by simp; omega) (fun j u y hu' hy => ?_) hK
    cases j with
    | zero =>
      rw [Array.getElem?_append_left (by simp)] at hu'
      simp at hu' hy; subst hu'; subst hy; exact hv
    | succ j => 
      rw [List.getElem?_cons_succ] at hy
      rw [Array.getElem?_append_right (by simp)] at hu'
      simp at hu'
      exact q2 j u y (by simpa using hu') hy
theorem valid_ivl {d : Option Nat} {name : String} {x : X} {t e : TypeId} {k off sz : Nat} {agg : Bool} {cs : List V} {f : Nat} {xs : List X} {ins outs : List (Nat × Own)} {res : V} {new : List Nat} (hx : evV st x = .ifc t (.own k off)) (hm : mth c.P t name = some (f, false)) (ht : c.P.underlying t = some (.pointer e))
    (hz : szB c.P e = some sz) (hag : aggB c.P e = some agg) (h1z : agg = false → sz = 1) (hko : own? st.own k = some (.fix cs)) (hlt : off + sz ≤ cs.length)
    (hS : Ctr c.P f (cut agg cs off sz :: evVs st xs) ins res outs new) (hsx : evS true st x) (hs : evSs true st xs) (hin : ∀ k o, (k, o) ∈ ins → own? st.own k = some o) (hno : (keysO ins).Nodup) :
    Valid c ⟨d, none, .ivk name x xs⟩ st { val := res, upd := callU ins outs, rd := k :: keysO ins, new := new } := by
  intro st1 h1 h2 h3 ops o hc β a w H Q K hK
  have hcg := hc.gd
  have hg : o.guard = none := by
    cases hg : o.guard with
    | none => rfl
    | some jw => simp only [hg] at hcg; obtain ⟨s, _, h⟩ := hcg; cases h
  rw [if_pos (by simp [Region.wanted, hg])]
  have hsl : ∀ k, k ∈ xsSlots xs → get st1.env k = get st.env k := fun k hk => h1 k (by simp [I.slots, O.slots, hk])
  have hslx : ∀ k, k ∈ x.slots → get st1.env k = get st.env k := fun k hk => h1 k (by simp [I.slots, O.slots, hk])
  have e1 := evVs_congr hsl
  have e2 := evSs_congr (p := true) hsl
  obtain ⟨cl, hcl, hcc⟩ := cOp_call hc.op rfl (by simp)
  obtain ⟨ox, h4, hox, h5⟩ := cCall_ivk hcc
  obtain ⟨q1, q2⟩ := evVs_ok H h5 (by rw [e2]; exact hs)
  rw [e1] at q1 q2
  have hv0 := evV_ok H hox (by rw [evS_congr hslx]; exact hsx)
  rw [evV_congr hslx, hx] at hv0
  have hko1 : own? st1.own k = some (.fix cs) := by rw [h2 k (by simp)]; exact hko
  obtain ⟨b', arr, e', hb, hh, hzz, hr⟩ := own_ok H hko1
  generalize hu : a.eval ox = u at *
  cases hv0 with
  | ifc _ v _ hv =>
    cases hv with
    | own _ _ b'' hb' =>
    rw [hb] at hb'
    injection hb' with hb'; injection hb' with hb'; injection hb' with hb'; injection hb' with hb'
    subst hb'
    have hcell : ∀ j, j < sz → w.cell? ⟨b', off + j, none⟩ = some (arr.getD (off + j) undef) := fun j hj => by
      rw [cell_of_row w b' (off + j) arr e' (0, 0) hh]
      have : off + j < arr.size := by omega
      simp [this]
    have hload := run_loadAt (P := c.P) hz hag h1z hcell
    have hlv : (Instr.loadAt e (.pointer (some ⟨b', off, none⟩))) = loadVar e ⟨b', off, none⟩ := rfl
    rw [hlv] at hload
    have hrel : RelV β (Eo c.E0 β st1.own) w (if agg then .agg ((List.range sz).map fun j => arr.getD (off + j) undef).toArray else arr.getD (off + 0) undef) (cut agg cs off sz) := by
      cases agg with
      | true =>
        simp only [cut, if_true]
        rw [takeV_eq, dropV_eq]
        refine .ag _ _ (by simp; omega) fun j v y hv hy => ?_
        rw [List.getElem?_take, List.getElem?_drop] at hy
        split at hy
        · rename_i hj
          have hlt2 : off + j < arr.size := by omega
          simp [hj, hlt2] at hv
          exact hr (off + j) v y (by rw [Array.getElem?_eq_getElem hlt2]; simp [hv]) hy
        · cases hy
      | false =>
        simp only [cut, Bool.false_eq_true, if_false]
        have h1 := h1z rfl
        have hlt2 : off < arr.size := by omega
        have h0 : cs[off]? = some cs[off] := List.getElem?_eq_getElem (by omega)
        rw [nth_some h0]
        exact hr off _ _ (by simp [Array.getElem?_eq_getElem hlt2]) h0
    generalize (if agg then Value.agg ((List.range sz).map fun j => arr.getD (off + j) undef).toArray else arr.getD (off + 0) undef) = lv at *
    have hrun : (execOp a.eval o).run c.P w = .ok (.enter f (#[lv] ++ cl.args.map a.eval)) w := by
      have hcf := run_method_val (w := w) hm ht hS.1 hload (cl.args.map a.eval)
      have hx : ((#[Value.iface t (.pointer (some ⟨b', off, none⟩))] ++ cl.args.map a.eval : Array Value).extract 1 (#[Value.iface t (.pointer (some ⟨b', off, none⟩))] ++ cl.args.map a.eval : Array Value).size) = cl.args.map a.eval := by simp [Array.extract_append]
      simp only [execOp, hcl, resolve, h4, hu, invoke, Sem.run_bind, Sem.run_pure, Result.andThen_ok]
      have h0 : (#[Value.iface t (.pointer (some ⟨b', off, none⟩))] ++ cl.args.map a.eval : Array Value)[0]? = some (.iface t (.pointer (some ⟨b', off, none⟩))) := by rw [Array.getElem?_append_left (by simp)]; rfl
      simp only [h0, hx]
      exact hcf
    have hl : cl.args.size = (evVs st xs).length := by simpa using q1
    refine call_wp H hS hc.dst hc.lt hno (fun k o h => by rw [h2 k (by simp [mem_keys h])]; exact hin k o h) h3 hrun (by simp; omega) (fun j u y hu' hy => ?_) (fun β' a' w' H' => hK β' a' w' (by simpa [St.stp] using H'))
    cases j with
    | zero =>
      rw [Array.getElem?_append_left (by simp)] at hu'
      simp at hu' hy; subst hu'; subst hy; exact hrel
    | succ j => 
      rw [List.getElem?_cons_succ] at hy
      rw [Array.getElem?_append_right (by simp)] at hu'
      simp at hu'
      exact q2 j u y (by simpa using hu') hy
theorem TR.iv {P : Program} (hP : c.P = P) {d : Option Nat} {name : String} {x : X} {t e : TypeId} {xv : V} {f : Nat} {xs : List X} (ins outs : List (Nat × Own)) (res : V) (new : List Nat) (hx : evV st x = .ifc t xv) (hm : mth P t name = some (f, true)) (ht : P.underlying t = some (.pointer e))
    (hS : Ctr P f (xv :: evVs st xs) ins res outs new) (hsx : evS true st x) (hs : evSs true st xs) (hin : ∀ k o, (k, o) ∈ ins → own? st.own k = some o) (hno : (keysO ins).Nodup) (hnew : ∀ k, k ∈ new → k ∉ st.nm)
    (h : vcR c b is (st.stp d { val := res, upd := callU ins outs, rd := keysO ins, new := new }) (lgs b acc ⟨keysO ins, (callU ins outs).map (·.1) ++ new⟩) K) : TR c b (⟨d, none, .ivk name x xs⟩ :: is) st acc K :=
  TR.cons _ (valid_iv hx (by rw [hP]; exact hm) (by rw [hP]; exact ht) (by rw [hP]; exact hS) hsx hs hin hno) hnew (vcR_ok h)
theorem TR.ivl {P : Program} (hP : c.P = P) {d : Option Nat} {name : String} {x : X} {t e : TypeId} {k off sz : Nat} {agg : Bool} {cs : List V} {f : Nat} {xs : List X} (ins outs : List (Nat × Own)) (res : V) (new : List Nat) (hx : evV st x = .ifc t (.own k off)) (hm : mth P t name = some (f, false)) (ht : P.underlying t = some (.pointer e))
    (hz : szB P e = some sz) (hag : aggB P e = some agg) (h1z : agg = false → sz = 1) (hko : own? st.own k = some (.fix cs)) (hlt : off + sz ≤ cs.length)
    (hS : Ctr P f (cut agg cs off sz :: evVs st xs) ins res outs new) (hsx : evS true st x) (hs : evSs true st xs) (hin : ∀ k o, (k, o) ∈ ins → own? st.own k = some o) (hno : (keysO ins).Nodup) (hnew : ∀ k, k ∈ new → k ∉ st.nm)
    (h : vcR c b is (st.stp d { val := res, upd := callU ins outs, rd := k :: keysO ins, new := new }) (lgs b acc ⟨k :: keysO ins, (callU ins outs).map (·.1) ++ new⟩) K) : TR c b (⟨d, none, .ivk name x xs⟩ :: is) st acc K :=
  TR.cons _ (valid_ivl hx (by rw [hP]; exact hm) (by rw [hP]; exact ht) (by rw [hP]; exact hz) (by rw [hP]; exact hag) h1z hko hlt (by rw [hP]; exact hS) hsx hs hin hno) hnew (vcR_ok h)
end
mutual
def V.ren (p : Nat → Nat) : V → V
  | .own k off => .own (p k) off
  | .osl k => .osl (p k)
  | .osub k sz lo n => .osub (p k) sz lo n
  | .optr k sz i off => .optr (p k) sz i off
  | .fn f a b => .fn f (renL p a) (renL p b)
  | .ifc t v => .ifc t (v.ren p)
  | .ag cs => .ag (renL p cs)
  | .tup cs => .tup (renL p cs)
  | .gd c v => .gd c (v.ren p)
  | .un => .un
  | .d x => .d x
  | .mem cs => .mem cs
def renL (p : Nat → Nat) : List V → List V
  | [] => []
  | v :: l => v.ren p :: renL p l
end
def Own.ren (p : Nat → Nat) : Own → Own
  | .fix cs => .fix (renL p cs)
  | .lit e sz n cs => .lit e sz n (renL p cs)
  | .row e sz n f => .row e sz n f
  | .mp z g => .mp z g
def renO (p : Nat → Nat) : List (Nat × Own) → List (Nat × Own)
  | [] => []
  | (k, o) :: l => (p k, o.ren p) :: renO p l
def renE (p : Nat → Nat) : List (Nat × V) → List (Nat × V)
  | [] => []
  | (s, v) :: l => (s, v.ren p) :: renE p l
theorem renL_eq (p : Nat → Nat) (l : List V) : renL p l = l.map (V.ren p) := by
  induction l with
  | nil => rfl
  | cons v l ih => simp [renL, ih]
theorem renO_eq (p : Nat → Nat) (l : List (Nat × Own)) : renO p l = l.map fun q => (p q.1, q.2.ren p) := by
  induction l with
  | nil => rfl
  | cons v l ih => simp [renO, ih]
mutual
theorem V.ren_ren {p q : Nat → Nat} (h : ∀ k, p (q k) = k) : ∀ v : V, (v.ren q).ren p = v
  | .own k off => by simp [V.ren, h]
  | .osl k => by simp [V.ren, h]
  | .osub k sz lo n => by simp [V.ren, h]
  | .optr k sz i off => by simp [V.ren, h]
  | .fn f a b => by simp [V.ren, renL_ren h a, renL_ren h b]
  | .ifc t v => by simp [V.ren, V.ren_ren h v]
  | .ag cs => by simp [V.ren, renL_ren h cs]
  | .tup cs => by simp [V.ren, renL_ren h cs]
  | .gd c v => by simp [V.ren, V.ren_ren h v]
  | .un => rfl
  | .d x => rfl
  | .mem cs => rfl
theorem renL_ren {p q : Nat → Nat} (h : ∀ k, p (q k) = k) : ∀ l : List V, renL p (renL q l) = l
  | [] => rfl
  | v :: l => by simp [renL, V.ren_ren h v, renL_ren h l]
end
theorem RelV.ren {β β' : Names} {E : Nat → Prop} {w : World} {p : Nat → Nat} (hp : ∀ k v, β k = some v → β' (p k) = some v) {v : Value} {x : V} (h : RelV β E w v x) : RelV β' E w v (x.ren p) := by
  induction h with
  | un v => exact .un v
  | d v x h => exact .d v x h
  | mem cs b off g hcell hrel => exact .mem cs b off g hcell hrel
  | own k off b h => exact .own _ off b (hp _ _ h)
  | osl k v h h1 => exact .osl _ v (hp _ _ h) h1
  | osub k sz lo n b m c a h hn' ha => exact .osub _ sz lo n b m c a (hp _ _ h) hn' ha
  | osub0 k sz A h => exact .osub0 _ sz A (hp _ _ h)
  | optr k sz i off b m c h => exact .optr _ sz i off b m c (hp _ _ h)
  | fn f fi ca first cap h1 h2 _ _ ih1 ih2 =>
    simp only [V.ren, renL_eq]
    refine .fn f fi ca _ _ (by simpa using h1) (by simpa using h2) (fun j v x hv hx => ?_) (fun j v x hv hx => ?_)
    · rw [List.getElem?_map] at hx
      obtain ⟨y, hy, rfl⟩ := Option.map_eq_some_iff.1 hx
      exact ih1 j v y hv hy
    · rw [List.getElem?_map] at hx
      obtain ⟨y, hy, rfl⟩ := Option.map_eq_some_iff.1 hx
      exact ih2 j v y hv hy
  | ifc t v x _ ih => exact .ifc t v _ ih
  | ag arr cs h1 _ ih =>
    simp only [V.ren, renL_eq]
    refine .ag arr _ (by simpa using h1) fun j v x hv hx => ?_
    rw [List.getElem?_map] at hx
    obtain ⟨y, hy, rfl⟩ := Option.map_eq_some_iff.1 hx
    exact ih j v y hv hy
  | tup arr cs h1 _ ih =>
    simp only [V.ren, renL_eq]
    refine .tup arr _ (by simpa using h1) fun j v x hv hx => ?_
    rw [List.getElem?_map] at hx
    obtain ⟨y, hy, rfl⟩ := Option.map_eq_some_iff.1 hx
    exact ih j v y hv hy
  | gd c v x _ h' ih => exact .gd c v _ ih h'
theorem OwnOk.ren {β β' : Names} {E : Nat → Prop} {w : World} {p : Nat → Nat} (hp : ∀ k v, β k = some v → β' (p k) = some v) {k : Nat} {o : Own} (h : OwnOk β E w k o) : OwnOk β' E w (p k) (o.ren p) := by
  have hL : ∀ {arr : Array Value} {cs : List V}, (∀ (j : Nat) (v : Value) (x : V), arr[j]? = some v → cs[j]? = some x → RelV β E w v x) → ∀ (j : Nat) (v : Value) (x : V), arr[j]? = some v → (renL p cs)[j]? = some x → RelV β' E w v x := fun hr j v x hv hx => by
    rw [renL_eq, List.getElem?_map] at hx
    obtain ⟨y, hy, rfl⟩ := Option.map_eq_some_iff.1 hx
    exact (hr j v y hv hy).ren hp
  cases o with
  | fix cs =>
    obtain ⟨b, arr, e, h1, h2, h3, h4⟩ := h
    exact ⟨b, arr, e, hp _ _ h1, h2, by simpa [renL_eq] using h3, hL h4⟩
  | row e sz n f =>
    obtain ⟨v, xs, h1, h2, h3, h4⟩ := h
    exact ⟨v, xs, hp _ _ h1, h2, h3, h4⟩
  | lit e sz n cs =>
    obtain ⟨v, xs, h1, h2, h3, h4⟩ := h
    refine ⟨v, xs, hp _ _ h1, h2, by simpa [renL_eq] using h3, fun j u x hu hx => ?_⟩
    rw [renL_eq, List.getElem?_map] at hx
    obtain ⟨y, hy, rfl⟩ := Option.map_eq_some_iff.1 hx
    exact (h4 j u y hu hy).ren hp
  | mp z g =>
    obtain ⟨b, es, cl, h1, h2⟩ := h
    exact ⟨b, es, cl, hp _ _ h1, h2⟩
def sw (a b k : Nat) : Nat := if k = a then b else if k = b then a else k
theorem sw_sw (a b k : Nat) : sw a b (sw a b k) = k := by
  unfold sw
  repeat' split
  all_goals omega
theorem sw_inj {a b k k' : Nat} (h : sw a b k = sw a b k') : k = k' := by
  have := congrArg (sw a b) h
  rwa [sw_sw, sw_sw] at this
theorem renO_ren (a b : Nat) (l : List (Nat × Own)) : renO (sw a b) (renO (sw a b) l) = l := by
  induction l with
  | nil => rfl
  | cons p l ih =>
    obtain ⟨k, o⟩ := p
    simp only [renO, ih, sw_sw]
    congr 2
    cases o <;> simp [Own.ren, renL_ren (sw_sw a b)]
theorem keys_renO {p : Nat → Nat} {l : List (Nat × Own)} : keysO (renO p l) = (keysO l).map p := by
  rw [renO_eq]; simp [keysO, Function.comp_def]
theorem blk_sw {β β' : Names} {a b : Nat} (hp : ∀ k, β' (sw a b k) = β k) (k : Nat) : β'.blk (sw a b k) = β.blk k := by
  simp [Names.blk, hp]
theorem Eo_sw {E0 : Nat → Prop} {β β' : Names} {a b : Nat} (hp : ∀ k, β' (sw a b k) = β k) (l : List (Nat × Own)) : Eo E0 β' (renO (sw a b) l) = Eo E0 β l := by
  funext x
  apply propext
  unfold Eo
  rw [keys_renO]
  constructor
  · rintro (h | ⟨k, h1, h2⟩)
    · exact .inl h
    · obtain ⟨k0, h3, rfl⟩ := List.mem_map.1 h1
      rw [blk_sw hp] at h2
      exact .inr ⟨k0, h3, h2⟩
  · rintro (h | ⟨k, h1, h2⟩)
    · exact .inl h
    · exact .inr ⟨sw a b k, List.mem_map.2 ⟨k, h1, rfl⟩, by rw [blk_sw hp]; exact h2⟩
theorem ownB_sw {β β' : Names} {a b : Nat} (hp : ∀ k, β' (sw a b k) = β k) (l : List (Nat × Own)) : ownB β' (renO (sw a b) l) = ownB β l := by
  funext x
  apply propext
  unfold ownB
  rw [keys_renO]
  constructor
  · rintro ⟨k, h1, h2⟩
    obtain ⟨k0, h3, rfl⟩ := List.mem_map.1 h1
    rw [blk_sw hp] at h2
    exact ⟨k0, h3, h2⟩
  · rintro ⟨k, h1, h2⟩
    exact ⟨sw a b k, List.mem_map.2 ⟨k, h1, rfl⟩, by rw [blk_sw hp]; exact h2⟩
theorem nodup_map_sw {a b : Nat} {l : List Nat} (h : l.Nodup) : (l.map (sw a b)).Nodup := by
  rw [List.Nodup, List.pairwise_map]
  exact h.imp fun hne e => hne (sw_inj e)
theorem OwnsOk.sw {E0 : Nat → Prop} {β β' : Names} {w : World} {a b : Nat} {l : List (Nat × Own)} (hp : ∀ k, β' (sw a b k) = β k) (h : OwnsOk E0 β w l) : OwnsOk E0 β' w (renO (Go.Bx.sw a b) l) := by
  refine ⟨fun k o hm => ?_, by rw [keys_renO]; exact nodup_map_sw h.nodup, fun k k' h1 h2 hne x hx hx' => ?_, fun k h1 x hx => ?_⟩
  · rw [renO_eq, List.mem_map] at hm
    obtain ⟨⟨k0, o0⟩, h1, h2⟩ := hm
    simp only [Prod.mk.injEq] at h2
    obtain ⟨rfl, rfl⟩ := h2
    rw [Eo_sw hp]
    exact (h.ok k0 o0 h1).ren (fun k v hv => by rw [hp]; exact hv)
  · rw [keys_renO] at h1 h2
    obtain ⟨k0, h3, rfl⟩ := List.mem_map.1 h1
    obtain ⟨k1, h4, rfl⟩ := List.mem_map.1 h2
    rw [blk_sw hp] at hx hx'
    exact h.apart k0 k1 h3 h4 (fun e => hne (by rw [e])) x hx hx'
  · rw [keys_renO] at h1
    obtain ⟨k0, h3, rfl⟩ := List.mem_map.1 h1
    rw [blk_sw hp] at hx
    exact h.lt k0 h3 x hx
theorem Ctr.sw {P : Program} {f : FuncId} {args : List V} {ins outs : List (Nat × Own)} {res : V} {new : List Nat} (h : Ctr P f args ins res outs new) (a b : Nat) :
    Ctr P f (renL (Go.Bx.sw a b) args) (renO (Go.Bx.sw a b) ins) (res.ren (Go.Bx.sw a b)) (renO (Go.Bx.sw a b) outs) (new.map (Go.Bx.sw a b)) := by
  obtain ⟨g1, g2, g3, g4⟩ := h
  refine ⟨g1, fun k hk => ?_, fun k hk => ?_, fun E0 β w vals hE hsz hv hins hnn => ?_⟩
  · rw [keys_renO] at hk ⊢
    obtain ⟨k0, h3, rfl⟩ := List.mem_map.1 hk
    rcases g2 k0 h3 with h4 | h4
    · exact .inl (List.mem_map.2 ⟨k0, h4, rfl⟩)
    · exact .inr (List.mem_map.2 ⟨k0, h4, rfl⟩)
  · rw [keys_renO]
    obtain ⟨k0, h3, rfl⟩ := List.mem_map.1 hk
    exact List.mem_map.2 ⟨k0, g3 k0 h3, rfl⟩
  let β0 : Names := fun k => β (Go.Bx.sw a b k)
  have hp0 : ∀ k, β0 (Go.Bx.sw a b k) = β k := fun k => by simp only [β0, sw_sw]
  have hp1 : ∀ k, β (Go.Bx.sw a b k) = β0 k := fun k => rfl
  have hins0 : OwnsOk E0 β0 w ins := by
    have := hins.sw hp0
    rwa [renO_ren] at this
  have hE0 : Eo E0 β (renO (Go.Bx.sw a b) ins) = Eo E0 β0 ins := Eo_sw hp1 ins
  have hcall := g4 E0 β0 w vals hE (by simpa [renL_eq] using hsz) (fun j v x hvj hx => by
    have := hv j v (x.ren (Go.Bx.sw a b)) hvj (by rw [renL_eq, List.getElem?_map, hx]; rfl)
    rw [hE0] at this
    have := this.ren (β' := β0) (p := Go.Bx.sw a b) (fun k v hk => by rw [hp0]; exact hk)
    rwa [V.ren_ren (sw_sw a b)] at this) hins0 (fun k hk => hnn _ (List.mem_map.2 ⟨k, hk, rfl⟩))
  refine hcall.mono fun e w' he => ?_
  obtain ⟨v, β1, rfl, h1, h2, h3, h4, h5, h6⟩ := he
  let β' : Names := fun k => β1 (Go.Bx.sw a b k)
  have hp2 : ∀ k, β' (Go.Bx.sw a b k) = β1 k := fun k => by simp only [β', sw_sw]
  refine ⟨v, β', rfl, fun k u hk => ?_, fun k hk => ?_, ?_, h4.sw hp2, ?_, ?_⟩
  · have h7 : β0 (Go.Bx.sw a b k) = some u := by rw [hp0]; exact hk
    exact h1 _ _ h7
  · have h7 := h2 (Go.Bx.sw a b k) (fun h8 => hk (List.mem_map.2 ⟨_, h8, sw_sw a b k⟩))
    rw [hp0] at h7
    exact h7
  · rw [Eo_sw hp2]
    exact h3.ren (fun k v hk => by rw [hp2]; exact hk)
  · rw [ownB_sw hp1]; exact h5
  · intro k hk x hx
    rw [keys_renO] at hk
    obtain ⟨k0, h7, rfl⟩ := List.mem_map.1 hk
    rw [blk_sw hp2] at hx
    rcases h6 k0 h7 x hx with h8 | h8
    · exact .inl h8
    · exact .inr (by rw [ownB_sw hp1]; exact h8)
theorem get_renE {p : Nat → Nat} (l : List (Nat × V)) (s : Nat) : Go.Bx.get (renE p l) s = (Go.Bx.get l s).ren p := by
  induction l with
  | nil => simp [renE, Go.Bx.get, V.ren]
  | cons q l ih =>
    obtain ⟨s', v⟩ := q
    simp only [renE, Go.Bx.get]
    split
    · rfl
    · exact ih
theorem Wk.sw {c : Ctx} {st : St} (a b : Nat) (fn : List Nat) (hfn : c.fn = fn) (ha : a ∉ fn) (hb : b ∉ fn) : Wk c st ⟨renE (Go.Bx.sw a b) st.env, renO (Go.Bx.sw a b) st.own, st.nm.map (Go.Bx.sw a b)⟩ := by
  subst hfn
  intro β fr w H
  let β' : Names := fun k => β (Go.Bx.sw a b k)
  have hp : ∀ k, β' (Go.Bx.sw a b k) = β k := fun k => by simp only [β', sw_sw]
  have hid : ∀ k, k ∈ c.fn → Go.Bx.sw a b k = k := fun k hk => by
    have h1 : k ≠ a := fun e => ha (by rw [← e]; exact hk)
    have h2 : k ≠ b := fun e => hb (by rw [← e]; exact hk)
    unfold Go.Bx.sw
    rw [if_neg h1, if_neg h2]
  refine ⟨β', H.sz, H.df, fun s => ?_, H.own.sw hp, fun k hk x hx => ?_, fun k hk => ?_, fun k hk => ?_, H.kp, fun k hk => ?_⟩
  · rw [Eo_sw hp, get_renE]
    exact (H.env s).ren (fun k v hv => by rw [hp]; exact hv)
  · rw [keys_renO] at hk
    obtain ⟨k0, h3, rfl⟩ := List.mem_map.1 hk
    rw [blk_sw hp] at hx
    exact H.fr k0 h3 x hx
  · rw [keys_renO] at hk
    obtain ⟨k0, h3, rfl⟩ := List.mem_map.1 hk
    exact List.mem_map.2 ⟨k0, H.kn k0 h3, rfl⟩
  · exact H.nm _ (fun h => hk (List.mem_map.2 ⟨_, h, sw_sw a b k⟩))
  · obtain ⟨h1, h2⟩ := H.fx k hk
    refine ⟨List.mem_map.2 ⟨k, h1, hid k hk⟩, ?_⟩
    have : β' k = β k := by simp only [β', hid k hk]
    rw [this]; exact h2
end Go.Bx
end
section
set_option linter.unusedSimpArgs false
set_option linter.unusedVariables false
namespace Go.Bx
open Go.RowKit
def mapE (T : V → V) : List (Nat × V) → List (Nat × V)
  | [] => []
  | (s, v) :: l => (s, T v) :: mapE T l
def mapO (T : List V → List V) : List (Nat × Own) → List (Nat × Own)
  | [] => []
  | (k, .fix cs) :: l => (k, .fix (T cs)) :: mapO T l
  | (k, .lit e sz n cs) :: l => (k, .lit e sz n (T cs)) :: mapO T l
  | (k, .row e sz n f) :: l => (k, .row e sz n f) :: mapO T l
  | (k, .mp z g) :: l => (k, .mp z g) :: mapO T l
theorem keys_mapO (T : List V → List V) (l : List (Nat × Own)) : keysO (mapO T l) = keysO l := by
  induction l with
  | nil => rfl
  | cons p l ih =>
    obtain ⟨k, o⟩ := p
    cases o <;> simp only [mapO, keysO, List.map_cons] at ih ⊢ <;> rw [ih]
theorem mem_mapO {T : List V → List V} {l : List (Nat × Own)} {k : Nat} {o : Own} (h : (k, o) ∈ mapO T l) : ∃ o0, (k, o0) ∈ l ∧ (match o0 with | .fix cs => o = .fix (T cs) | .lit e sz n cs => o = .lit e sz n (T cs) | _ => o = o0) := by
  induction l with
  | nil => simp [mapO] at h
  | cons p l ih =>
    obtain ⟨k0, o0⟩ := p
    cases o0 <;> simp only [mapO, List.mem_cons] at h <;> rcases h with h | h
    all_goals first
      | (simp only [Prod.mk.injEq] at h
         obtain ⟨rfl, rfl⟩ := h
         exact ⟨_, List.mem_cons_self, rfl⟩)
      | (obtain ⟨o1, h1, h2⟩ := ih h
         exact ⟨o1, List.mem_cons_of_mem _ h1, h2⟩)
theorem Holds.mapV {c : Ctx} {β : Names} {st : St} {a : Act} {w : World} (H : Holds c β st a w) {T : V → V} {TL : List V → List V} (hTL : ∀ l, TL l = l.map T) (hun : T .un = .un)
    (hT : ∀ u x, RelV β (Eo c.E0 β st.own) w u x → RelV β (Eo c.E0 β st.own) w u (T x)) : Holds c β ⟨mapE T st.env, mapO TL st.own, st.nm⟩ a w := by
  have hk := keys_mapO TL st.own
  have hE : Eo c.E0 β (mapO TL st.own) = Eo c.E0 β st.own := by unfold Eo; rw [hk]
  refine ⟨H.sz, H.df, fun s => ?_, ⟨fun k o hm => ?_, by rw [hk]; exact H.own.nodup, fun k k' h1 h2 => H.own.apart k k' (hk ▸ h1) (hk ▸ h2), fun k h1 => H.own.lt k (hk ▸ h1)⟩, fun k h1 => H.fr k (hk ▸ h1), fun k h1 => H.kn k (hk ▸ h1), H.nm, H.kp, H.fx⟩
  · rw [hE]
    have : ∀ (l : List (Nat × V)), get (mapE T l) s = T (get l s) := by
      intro l
      induction l with
      | nil => simp [mapE, get, hun]
      | cons p l ih =>
        obtain ⟨s', y⟩ := p
        simp only [mapE, get]
        split
        · rfl
        · exact ih
    rw [this]
    exact hT _ _ (H.env s)
  · rw [hE]
    obtain ⟨o0, h1, h2⟩ := mem_mapO hm
    have hok := H.own.ok k o0 h1
    cases o0 with
    | fix cs =>
      simp only at h2; subst h2
      obtain ⟨b, arr, e, g1, g2, g3, g4⟩ := hok
      refine ⟨b, arr, e, g1, g2, by simpa [hTL] using g3, fun j v x hv hx => ?_⟩
      rw [hTL, List.getElem?_map] at hx
      obtain ⟨y, hy, rfl⟩ := Option.map_eq_some_iff.1 hx
      exact hT _ _ (g4 j v y hv hy)
    | lit e sz n cs =>
      simp only at h2; subst h2
      obtain ⟨v0, xs, g1, g2, g3, g4⟩ := hok
      refine ⟨v0, xs, g1, g2, by simpa [hTL] using g3, fun j v x hv hx => ?_⟩
      rw [hTL, List.getElem?_map] at hx
      obtain ⟨y, hy, rfl⟩ := Option.map_eq_some_iff.1 hx
      exact hT _ _ (g4 j v y hv hy)
    | row e sz n f => simp only at h2; subst h2; exact hok
    | mp z g => simp only at h2; subst h2; exact hok
mutual
def shrV (k sz b k' : Nat) : V → V
  | .osub q s lo n => if q = k ∧ s = sz ∧ lo = 0 ∧ n = b then .osl k' else .osub q s lo n
  | .ag cs => .ag (shrL k sz b k' cs)
  | .tup cs => .tup (shrL k sz b k' cs)
  | .un => .un
  | .d y => .d y
  | .mem cs => .mem cs
  | .own q off => .own q off
  | .osl q => .osl q
  | .optr q s i off => .optr q s i off
  | .fn f x y => .fn f x y
  | .ifc t v => .ifc t v
  | .gd c v => .gd c v
def shrL (k sz b k' : Nat) : List V → List V
  | [] => []
  | v :: l => shrV k sz b k' v :: shrL k sz b k' l
end
theorem shrL_eq (k sz b k' : Nat) (l : List V) : shrL k sz b k' l = l.map (shrV k sz b k') := by
  induction l with
  | nil => rfl
  | cons v l ih => simp [shrL, ih]
theorem RelV.shr {β : Names} {E : Nat → Prop} {w : World} {k sz b k' : Nat} {v' : Value} (hb : β k' = some v') (h1 : v'.oneCell' = true) (hu : ∀ u, RelV β E w u (.osub k sz 0 b) → u = v') {v : Value} {x : V} (h : RelV β E w v x) : RelV β E w v (shrV k sz b k' x) := by
  induction h with
  | osub q s lo n b' m c a h hn ha =>
    simp only [shrV]
    split
    · rename_i e
      obtain ⟨rfl, rfl, rfl, rfl⟩ := e
      have := hu _ (.osub q s 0 n b' m c a h hn ha)
      rw [this]
      exact .osl _ _ hb h1
    · exact .osub q s lo n b' m c a h hn ha
  | osub0 q s A h =>
    simp only [shrV]
    split
    · rename_i e
      obtain ⟨rfl, rfl, -, rfl⟩ := e
      have := hu _ (.osub0 q s A h)
      rw [this]
      exact .osl _ _ hb h1
    · exact .osub0 q s A h
  | ag arr cs h1 r1 ih =>
    simp only [shrV, shrL_eq]
    refine .ag _ _ (by simpa using h1) fun j v y hv hy => ?_
    rw [List.getElem?_map] at hy
    obtain ⟨y0, hy0, rfl⟩ := Option.map_eq_some_iff.1 hy
    exact ih j v y0 hv hy0
  | tup arr cs h1 r1 ih =>
    simp only [shrV, shrL_eq]
    refine .tup _ _ (by simpa using h1) fun j v y hv hy => ?_
    rw [List.getElem?_map] at hy
    obtain ⟨y0, hy0, rfl⟩ := Option.map_eq_some_iff.1 hy
    exact ih j v y0 hv hy0
  | un v => exact .un v
  | d v y h => exact .d v y h
  | mem cs b off g hcell hrel => exact .mem cs b off g hcell hrel
  | own q off b h => exact .own q off b h
  | osl q v h h1 => exact .osl q v h h1
  | optr q s i off b m c h => exact .optr q s i off b m c h
  | fn f fi ca first cap h1 h2 r1 r2 _ _ => exact .fn f fi ca first cap h1 h2 r1 r2
  | ifc t v y h _ => exact .ifc t v y h
  | gd c v y h h' _ => exact .gd c v y h h'
theorem Wk.shr {c : Ctx} {a : St} (k k' b : Nat) {e sz n : Nat} {f : Nat → List D} (ho : own? a.own k = some (.row e sz n f)) (hbn : b ≤ n) (hk : k' ∉ a.nm) :
    Wk c a ⟨mapE (shrV k sz b k') a.env, mapO (shrL k sz b k') (setO (delO a.own k) k' (.row e sz b f)), k' :: a.nm⟩ := by
  intro β fr w H
  obtain ⟨v, xs, hv, hrow, hfl, hfr⟩ := own_ok H ho
  have hmul : b * sz ≤ n * sz := Nat.mul_le_mul_right _ hbn
  obtain ⟨v', hv', hone, hrow', hblk⟩ : ∃ v', (∀ (β' : Names) E u, β' k = some v → RelV β' E w u (.osub k sz 0 b) → u = v') ∧ v'.oneCell' = true ∧ RowOk w e sz v' b (xs.take (b * sz)) ∧ blkOf v' = blkOf v := by
    rcases hrow.2 with ⟨⟨A, rfl⟩, rfl⟩ | ⟨g, cap, cur, rfl, hc0, hh, hnc, hcm, hcs, htk⟩
    · have : b = 0 := by omega
      subst this
      refine ⟨.slice A 0 0, fun β' E u hb hu => ?_, rfl, ⟨by simp, .inl ⟨⟨A, rfl⟩, rfl⟩⟩, rfl⟩
      cases hu with
      | osub _ _ _ _ b0 m c0 ad h1 h2 h3 =>
        rw [hb] at h1
        injection h1 with h1; injection h1 with h4 h5 h6
        subst h4; subst h6
        rw [h3 (.inr rfl)]
        simp
      | osub0 _ _ A' h1 => rw [hb] at h1; injection h1 with h1; injection h1 with h1; rw [h1]
    · refine ⟨.slice (some ⟨g, 0, none⟩) b cap, fun β' E u hb hu => ?_, rfl, ⟨by rw [List.length_take, hrow.1]; omega, .inr ⟨g, cap, cur, rfl, hc0, hh, by omega, hcm, hcs, ?_⟩⟩, rfl⟩
      · cases hu with
        | osub _ _ _ _ b0 m c0 ad h1 h2 h3 =>
          rw [hb] at h1
          injection h1 with h1; injection h1 with h4 h5 h6
          injection h4 with h4; injection h4 with h4
          subst h4; subst h6
          rw [h3 (.inr rfl)]
          simp
        | osub0 _ _ A' h1 =>
          rw [hb] at h1
          injection h1 with h1; injection h1 with h1 h2 h3
          omega
      · rw [← htk, List.take_take, Nat.min_eq_left hmul]
  obtain ⟨β', hβ, hbd, H'⟩ := H.replOwn (w' := w) (k0 := k) (k := k') (val := v') (ow := .row e sz b f) (mem_keys (own?_mem ho)) hk (Keeps.refl _ w) (fun x hx => .inl (by simp only [Names.blk, hv, Option.bind_some]; rw [← hblk]; exact hx))
    (fun β' E' hβ hbd hl => ⟨v', _, hbd, hrow', fun i hi => hfl i (by omega), fun i j hi hj x hx => by
      obtain ⟨u, q1, q2⟩ := hfr i j (by omega) hj x hx
      refine ⟨u, ?_, q2.lasts hl⟩
      have : (i + 1) * sz ≤ b * sz := Nat.mul_le_mul_right _ hi
      rw [Nat.add_mul] at this
      rw [List.getElem?_take, if_pos (by omega)]; exact q1⟩)
  exact ⟨β', H'.mapV (shrL_eq k sz b k') rfl (fun u x hx => hx.shr hbd hone (fun u hu => hv' β' _ u (hβ _ _ hv) hu))⟩
theorem Wk.row0F {c : Ctx} {a : St} (k j k' e sz : Nat) (f' : Nat → List D) {cs : List V} {sz' : Nat} {f : Nat → List D} (ho : own? a.own k = some (.fix cs)) (hj : cs[j]? = some (.d (.sl true sz' 0 f))) (hk : k' ∉ a.nm) :
    Wk c a ⟨a.env, setO (setO a.own k' (.row e sz 0 f')) k (.fix (putV cs j [.osl k'])), k' :: a.nm⟩ := by
  intro β fr w H
  have hkk := mem_keys (own?_mem ho)
  obtain ⟨b, arr, e0, hb, hh, hz, hr⟩ := own_ok H ho
  have hjl : j < cs.length := (List.getElem?_eq_some_iff.1 hj).1
  have hja : arr[j]? = some (arr[j]'(by omega)) := Array.getElem?_eq_getElem (by omega)
  generalize arr[j]'(by omega) = u at hja
  have hu := rel_d (hr j u _ hja hj)
  have hform : ∃ A, u = .slice A 0 0 := by
    cases hu with
    | nil _ _ _ _ => exact ⟨_, rfl⟩
    | sl _ _ _ _ b off c g hc hf _ _ _ => have := hf rfl; subst this; exact ⟨_, rfl⟩
  obtain ⟨A, rfl⟩ := hform
  obtain ⟨β', hβ, hbd, H'⟩ := H.addOwn (w' := w) (k := k') (val := .slice A 0 0) (ow := .row e sz 0 f') (Keeps.refl _ w) hk (fun b hb => by cases A <;> simp [blkOf] at hb)
    (fun β' E' _ hb _ => ⟨_, [], hb, ⟨by simp, .inl ⟨⟨A, rfl⟩, rfl⟩⟩, fun i hi => by omega, fun i j hi => by omega⟩)
  have hkn : k ≠ k' := fun e => hk (e ▸ H.kn k hkk)
  have ho' : own? (setO a.own k' (.row e sz 0 f')) k = some (.fix cs) := by rw [own?_setO, if_neg hkn]; exact ho
  refine ⟨β', H'.updOwn (w' := w) (k := k) (ow := .fix (putV cs j [.osl k'])) (mem_keys (own?_mem ho')) (Keeps.refl _ w) (fun E' hl hE => ?_)⟩
  obtain ⟨b2, arr2, e2, hb2, hh2, hz2, hr2⟩ := own_ok H' ho'
  have hbb : b2 = b := by
    have := hβ _ _ hb
    rw [hb2] at this
    injection this with this; injection this with this; injection this with this; injection this
  subst hbb
  rw [hh] at hh2
  injection hh2 with hh2; injection hh2 with hh2 hh3
  subst hh2; subst hh3
  refine ⟨b2, arr, e0, hb2, hh, by rw [putV_len]; exact hz, fun j' v x hv hx => ?_⟩
  rw [putV_get] at hx
  split at hx
  · rename_i hc
    have : j' = j := by simp at hc; omega
    subst this
    simp at hx
    rw [hja] at hv
    cases hv
    rw [← hx]
    exact .osl _ _ hbd rfl
  · exact (hr2 j' v x hv hx).lasts hl (fun _ _ => rfl)
theorem OwnLe.of {a b : List (Nat × Own)} (h : ∀ k o, (k, o) ∈ b → ∃ o', own? a k = some o' ∧ OLe o' o) : OwnLe a b := by
  induction b with
  | nil => trivial
  | cons p b ih =>
    obtain ⟨k, o⟩ := p
    exact ⟨h k o List.mem_cons_self, ih fun k o hm => h k o (List.mem_cons_of_mem _ hm)⟩
theorem OLe.lits {e sz n : Nat} {xs ys : List V} (h : VsLe xs ys) : OLe (.lit e sz n xs) (.lit e sz n ys) := by
  obtain ⟨hl, hr⟩ := VsLe.get h
  rintro β E w k ⟨v, vs, h1, h2, h3, h4⟩
  refine ⟨v, vs, h1, h2, by rw [← hl]; exact h3, fun j u y hu hy => ?_⟩
  have hj : j < xs.length := by have := (List.getElem?_eq_some_iff.1 hu).1; rw [h2.1] at this; omega
  exact hr j xs[j] y (List.getElem?_eq_getElem hj) hy _ _ _ _ (h4 j u xs[j] hu (List.getElem?_eq_getElem hj))
theorem OLe.rowLit {e sz n : Nat} {f : Nat → List D} {cs : List V} (hc : cs = catR n f) : OLe (.row e sz n f) (.lit e sz n cs) := by
  subst hc
  rintro β E w k ⟨v, vs, h1, h2, h3, h4⟩
  refine ⟨v, vs, h1, h2, catR_len h3, fun j u y hu hy => ?_⟩
  obtain ⟨i, q, h5, h6, h7, z, h8, rfl⟩ := catR_get h3 hy
  obtain ⟨u', h9, h10⟩ := h4 i q h5 h6 z h8
  rw [h7, h9] at hu
  cases hu
  exact .d _ _ h10
theorem own?_renO {a b : Nat} (l : List (Nat × Own)) (k : Nat) : own? (renO (sw a b) l) k = (own? l (sw a b k)).map (Own.ren (sw a b)) := by
  induction l with
  | nil => rfl
  | cons p l ih =>
    obtain ⟨k0, o⟩ := p
    simp only [renO, own?]
    by_cases h : k0 = sw a b k
    · have : sw a b k0 = k := by rw [h, sw_sw]
      rw [if_pos h, if_pos this]; rfl
    · have : ¬ sw a b k0 = k := fun e => h (by rw [← e, sw_sw])
      rw [if_neg h, if_neg this, ih]
theorem Wk.rn {c : Ctx} {st b : St} (x y : Nat) (fn : List Nat) (hfn : c.fn = fn) (hx : x ∉ fn) (hy : y ∉ fn) (he : EnvLe (renE (Go.Bx.sw x y) st.env) b.env) (ho : ∀ k o, (k, o) ∈ b.own → ∃ o', own? st.own (Go.Bx.sw x y k) = some o' ∧ OLe (o'.ren (Go.Bx.sw x y)) o)
    (hnd : (keysO b.own).Nodup) (hk : ∀ k, k ∈ keysO b.own → k ∈ b.nm) (hfx : ∀ k, k ∈ fn → k ∈ b.nm) (hv : ∀ s y, (s, y) ∈ b.env → ∀ k, k ∈ y.names → k ∈ b.nm) (hov : ∀ k o, (k, o) ∈ b.own → ∀ j, j ∈ (match o with | .fix cs => namesL cs | .lit _ _ _ cs => namesL cs | .row _ _ _ _ => [] | .mp _ _ => []) → j ∈ b.nm) : Wk c st b :=
  (Wk.sw x y fn hfn hx hy).trans (Wk.mk he (OwnLe.of fun k o hm => by
    obtain ⟨o', h1, h2⟩ := ho k o hm
    exact ⟨_, by rw [own?_renO, h1]; rfl, h2⟩) hnd hk (fun k h => hfx k (hfn ▸ h)) hv hov)
section
variable {X : Type} (dx : X) (cells : X → List D)
def nestC (K τ sz : Nat) : Nat → List (List X) → List V
  | _, [] => []
  | i, g :: G => (if g.length ≤ τ then .d (.sl true sz g.length (fun j => cells (g.getD j dx))) else .osl (K + i)) :: nestC K τ sz (i + 1) G
def nestO (K τ e sz : Nat) : Nat → List (List X) → List (Nat × Own)
  | _, [] => []
  | i, g :: G => if g.length ≤ τ then nestO K τ e sz (i + 1) G else (K + i, .row e sz g.length (fun j => cells (g.getD j dx))) :: nestO K τ e sz (i + 1) G
def nestD (sz : Nat) (G : List (List X)) : Nat → List D := fun i => [.sl false sz (G.getD i []).length (fun j => cells ((G.getD i []).getD j dx))]
def nmN (K n : Nat) : List Nat := (List.range n).map (K + ·)
theorem mem_nmN {K n k : Nat} : k ∈ nmN K n ↔ K ≤ k ∧ k < K + n := by
  unfold nmN
  rw [List.mem_map]
  constructor
  · rintro ⟨i, h1, rfl⟩
    have := List.mem_range.1 h1
    omega
  · rintro ⟨h1, h2⟩
    exact ⟨k - K, List.mem_range.2 (by omega), by omega⟩
variable {dx cells}
theorem nestC_get {K τ sz : Nat} : ∀ {i : Nat} {G : List (List X)} {j : Nat} {g : List X}, G[j]? = some g →
    (nestC dx cells K τ sz i G)[j]? = some (if g.length ≤ τ then .d (.sl true sz g.length (fun j => cells (g.getD j dx))) else .osl (K + (i + j)))
  | _, [], _, _, h => by simp at h
  | i, g :: G, 0, g', h => by simp at h; subst h; simp [nestC]
  | i, g :: G, j + 1, g', h => by
    simp at h
    simp only [nestC, List.getElem?_cons_succ]
    rw [nestC_get h, show i + 1 + j = i + (j + 1) by omega]
theorem nestC_nth {K τ sz : Nat} {i : Nat} {G : List (List X)} {j : Nat} {g : List X} (h : G[j]? = some g) :
    nth (nestC dx cells K τ sz i G) j = if g.length ≤ τ then .d (.sl true sz g.length (fun j => cells (g.getD j dx))) else .osl (K + (i + j)) := nth_some (nestC_get h)
theorem nestC_app {K τ sz : Nat} : ∀ {i : Nat} {G G' : List (List X)}, nestC dx cells K τ sz i (G ++ G') = nestC dx cells K τ sz i G ++ nestC dx cells K τ sz (i + G.length) G'
  | i, [], G' => by simp [nestC]
  | i, g :: G, G' => by
    simp only [List.cons_append, nestC, List.length_cons]
    rw [nestC_app, show i + 1 + G.length = i + (G.length + 1) by omega]
theorem nestC_names {K τ sz : Nat} {i : Nat} {G : List (List X)} {k : Nat} (h : k ∈ namesL (nestC dx cells K τ sz i G)) : K + i ≤ k ∧ k < K + i + G.length := by
  induction G generalizing i with
  | nil => simp [nestC, namesL] at h
  | cons g G ih =>
    simp only [nestC, namesL, List.mem_append] at h
    rcases h with h | h
    · split at h
      · simp [V.names] at h
      · simp [V.names] at h; simp; omega
    · have := ih h
      simp; omega
theorem nestO_mem {K τ e sz : Nat} : ∀ {i : Nat} {G : List (List X)} {k : Nat} {o : Own}, (k, o) ∈ nestO dx cells K τ e sz i G → ∃ j g, G[j]? = some g ∧ τ < g.length ∧ k = K + (i + j) ∧ o = .row e sz g.length (fun j => cells (g.getD j dx))
  | _, [], _, _, h => by simp [nestO] at h
  | i, g :: G, k, o, h => by
    simp only [nestO] at h
    split at h
    · obtain ⟨j, g', h1, h2, h3, h4⟩ := nestO_mem h
      exact ⟨j + 1, g', by simpa using h1, h2, by omega, h4⟩
    · rename_i hl
      rcases List.mem_cons.1 h with h | h
      · simp only [Prod.mk.injEq] at h
        exact ⟨0, g, rfl, by omega, by omega, h.2⟩
      · obtain ⟨j, g', h1, h2, h3, h4⟩ := nestO_mem h
        exact ⟨j + 1, g', by simpa using h1, h2, by omega, h4⟩
theorem nestO_own {K τ e sz : Nat} : ∀ {i : Nat} {G : List (List X)} {k : Nat}, own? (nestO dx cells K τ e sz i G) k = if K + i ≤ k then (match G[k - (K + i)]? with | some g => if τ < g.length then some (.row e sz g.length (fun j => cells (g.getD j dx))) else none | none => none) else none
  | i, [], k => by simp [nestO, own?]
  | i, g :: G, k => by
    simp only [nestO]
    have ih := @nestO_own K τ e sz (i + 1) G k
    by_cases h : g.length ≤ τ
    · rw [if_pos h, ih]
      by_cases h2 : K + i ≤ k
      · rw [if_pos h2]
        by_cases h3 : k = K + i
        · subst h3
          rw [if_neg (by omega)]
          simp; omega
        · rw [if_pos (by omega), show k - (K + i) = k - (K + (i + 1)) + 1 by omega]
          simp
      · rw [if_neg h2, if_neg (by omega)]
    · rw [if_neg h]
      simp only [own?]
      by_cases h3 : K + i = k
      · subst h3
        simp; omega
      · rw [if_neg h3, ih]
        by_cases h2 : K + i ≤ k
        · rw [if_pos h2, if_pos (by omega), show k - (K + i) = k - (K + (i + 1)) + 1 by omega]
          simp
        · rw [if_neg h2, if_neg (by omega)]
theorem nestO_nodup {K τ e sz : Nat} : ∀ {i : Nat} {G : List (List X)}, (keysO (nestO dx cells K τ e sz i G)).Nodup
  | _, [] => by simp [nestO, keysO]
  | i, g :: G => by
    simp only [nestO]
    split
    · exact nestO_nodup
    · simp only [keysO, List.map_cons, List.nodup_cons]
      refine ⟨fun h => ?_, nestO_nodup⟩
      obtain ⟨o, h1⟩ := keys_mem h
      obtain ⟨j, g', _, _, h2, _⟩ := nestO_mem h1
      omega
theorem nestO_key {K τ e sz : Nat} {i : Nat} {G : List (List X)} {k : Nat} (h : k ∈ keysO (nestO dx cells K τ e sz i G)) : K + i ≤ k ∧ k < K + i + G.length := by
  obtain ⟨o, h1⟩ := keys_mem h
  obtain ⟨j, g', h2, _, h3, _⟩ := nestO_mem h1
  have := (List.getElem?_eq_some_iff.1 h2).1
  omega
theorem Wk.nestPub {c : Ctx} {st : St} {K' K τ e' e sz : Nat} {G : List (List X)} {own' : List (Nat × Own)} (hl : own? st.own K' = some (.lit e' 1 G.length (nestC dx cells K τ sz 0 G)))
    (hi : ∀ i g, G[i]? = some g → τ < g.length → own? st.own (K + i) = some (.row e sz g.length (fun j => cells (g.getD j dx)))) (hnd : (keysO own').Nodup)
    (hsub : ∀ k o, (k, o) ∈ own' → (k = K' ∧ o = .row e' 1 G.length (nestD dx cells sz G)) ∨ (k ≠ K' ∧ own? st.own k = some o)) (hno : ∀ i, i < G.length → K + i ∉ keysO own') : Wk c st ⟨st.env, own', st.nm⟩ := by
  intro β fr w H
  have hkeys : ∀ k, k ∈ keysO own' → k ∈ keysO st.own := fun k hk => by
    obtain ⟨o, ho⟩ := keys_mem hk
    rcases hsub k o ho with ⟨rfl, _⟩ | ⟨_, h⟩
    · exact mem_keys (own?_mem hl)
    · exact mem_keys (own?_mem h)
  have hE : ∀ x, Eo c.E0 β own' x → Eo c.E0 β st.own x := by
    rintro x (h | ⟨k1, h1, h2⟩)
    · exact .inl h
    · exact .inr ⟨k1, hkeys k1 h1, h2⟩
  have hlast : Lasts (Eo c.E0 β st.own) (Eo c.E0 β own') w w := fun x _ hx => ⟨fun h => hx (hE x h), rfl⟩
  refine ⟨β, H.sz, H.df, fun s => (H.env s).lasts' hlast (Names.le.refl β), ⟨fun k o hm => ?_, hnd, fun k k' h1 h2 => H.own.apart k k' (hkeys k h1) (hkeys k' h2), fun k h1 => H.own.lt k (hkeys k h1)⟩, fun k h1 => H.fr k (hkeys k h1), fun k h1 => H.kn k (hkeys k h1), H.nm, H.kp, H.fx⟩
  rcases hsub k o hm with ⟨rfl, rfl⟩ | ⟨hne, h⟩
  · obtain ⟨v, xs, g1, g2, g3, g4⟩ := own_ok H hl
    refine ⟨v, xs, g1, g2, fun i hi' => rfl, fun i j hi' hj x hx => ?_⟩
    have hj0 : j = 0 := by omega
    subst hj0
    simp only [nestD, List.getElem?_cons_zero, Option.some.injEq] at hx
    subst hx
    have hil : i < xs.length := by rw [g2.1]; omega
    refine ⟨xs[i], by rw [Nat.mul_one, Nat.add_zero]; exact List.getElem?_eq_getElem hil, ?_⟩
    have hg : G[i]? = some G[i] := List.getElem?_eq_getElem hi'
    have hgd : G.getD i [] = G[i] := by simp [List.getD_eq_getElem?_getD, hg]
    rw [hgd]
    have hrel := g4 i xs[i] _ (List.getElem?_eq_getElem hil) (nestC_get hg)
    generalize G[i] = g at *
    generalize xs[i] = u at *
    by_cases hτ : g.length ≤ τ
    · rw [if_pos hτ] at hrel
      have := (rel_d hrel).lasts hlast
      generalize g.length = gl at this ⊢
      cases this with
      | nil _ _ _ _ => exact .nil _ _ _ _
      | sl _ _ _ _ b off c gg hc hf hl' hcell hr' => exact .sl _ _ _ _ b off c gg hc (fun h => by cases h) hl' hcell hr'
    · rw [if_neg hτ, Nat.zero_add] at hrel
      have hin := hi i g hg (by omega)
      obtain ⟨v1, ys, q1, q2, q3, q4⟩ := own_ok H hin
      cases hrel with
      | osl _ _ q5 q6 =>
        rw [q1] at q5
        cases q5
        have hKi := mem_keys (own?_mem hin)
        rcases q2.2 with ⟨⟨A, rfl⟩, h0⟩ | ⟨gb, cap, cur, rfl, hc0, hh, hnc, hcm, hcs, htk⟩
        · have : g.length = 0 := h0
          rw [this]
          exact .nil _ _ _ _
        · refine .sl _ _ _ _ gb 0 cap (fun i j => cur.getD (i * sz + j) undef) hnc (fun h => by cases h) q3 (fun i' j' hi2 hj2 => ⟨?_, ?_⟩) (fun i' j' hi2 hj2 x hx => ?_)
          · rintro (h | ⟨k1, h1, h2⟩)
            · exact (H.own.lt _ hKi gb (by simp [Names.blk, q1, blkOf]; omega)).2 h
            · exact H.own.apart k1 (K + i) (hkeys k1 h1) hKi (fun e => hno i hi' (e ▸ h1)) gb h2 (by simp [Names.blk, q1, blkOf]; omega)
          · have hlt : i' * sz + j' < g.length * sz := by
              have : (i' + 1) * sz ≤ g.length * sz := Nat.mul_le_mul_right _ hi2
              rw [Nat.add_mul] at this; omega
            have hlt2 : i' * sz + j' < cur.size := by
              have : g.length * sz ≤ cap * sz := Nat.mul_le_mul_right _ hnc
              omega
            rw [Nat.zero_add, cell_of_row w gb _ cur e (0, 0) hh]
            simp [hlt2]
          · obtain ⟨u, p1, p2⟩ := q4 i' j' hi2 hj2 x hx
            have hlt : i' * sz + j' < g.length * sz := by
              have : (i' + 1) * sz ≤ g.length * sz := Nat.mul_le_mul_right _ hi2
              rw [Nat.add_mul] at this; omega
            have : cur[i' * sz + j']? = some u := by
              rw [← p1, ← htk, List.getElem?_take, if_pos hlt]; simp
            simp only [Array.getD_eq_getD_getElem?, this, Option.getD_some]
            exact p2.lasts hlast
  · exact (H.own.ok k o (own?_mem h)).lasts hlast (Names.le.refl β) (fun _ _ => rfl)
theorem putV_nest {K τ sz : Nat} : ∀ {i0 : Nat} {G : List (List X)} {i : Nat} {g : List X}, i < G.length → τ < g.length → ∀ d, renL (sw d (K + (i0 + i))) (putV (nestC dx cells K τ sz i0 G) i [.osl d]) = (if d < K then nestC dx cells K τ sz i0 (G.set i g) else renL (sw d (K + (i0 + i))) (putV (nestC dx cells K τ sz i0 G) i [.osl d]))
  | i0, [], i, g, h, _, d => by simp at h
  | i0, g0 :: G, 0, g, h, hg, d => by
    by_cases hd : d < K
    · rw [if_pos hd]
      simp only [nestC, putV, List.set_cons_zero, Nat.add_zero, renL, V.ren]
      rw [if_neg (by omega)]
      congr 1
      · simp [sw]
      · have : ∀ (G : List (List X)) (j : Nat), i0 < j → renL (sw d (K + i0)) (putV (nestC dx cells K τ sz j G) 0 []) = nestC dx cells K τ sz j G := by
          intro G
          induction G with
          | nil => intro j _; simp [nestC, putV, renL]
          | cons g1 G ih =>
            intro j hj
            have h1 := ih (j + 1) (by omega)
            have hp : ∀ (l : List V), putV l 0 [] = l := fun l => by cases l <;> simp [putV]
            rw [hp] at h1 ⊢
            simp only [nestC, renL, h1]
            congr 1
            split
            · simp [V.ren]
            · simp only [V.ren]
              rw [show sw d (K + i0) (K + j) = K + j by unfold sw; rw [if_neg (by omega), if_neg (by omega)]]
        exact this G (i0 + 1) (by omega)
    · rw [if_neg hd]
  | i0, g0 :: G, i + 1, g, h, hg, d => by
    by_cases hd : d < K
    · rw [if_pos hd]
      have ih := @putV_nest K τ sz (i0 + 1) G i g (by simpa using h) hg d
      rw [if_pos hd, show i0 + 1 + i = i0 + (i + 1) by omega] at ih
      simp only [nestC, putV, List.set_cons_succ, renL, ih]
      congr 1
      split
      · simp [V.ren]
      · simp only [V.ren]
        rw [show sw d (K + (i0 + (i + 1))) (K + i0) = K + i0 by unfold sw; rw [if_neg (by omega), if_neg (by omega)]]
    · rw [if_neg hd]
theorem nest_ren {K τ sz a b : Nat} : ∀ {i : Nat} {G : List (List X)}, a < K → b < K → renL (sw a b) (nestC dx cells K τ sz i G) = nestC dx cells K τ sz i G
  | _, [], _, _ => rfl
  | i, g :: G, ha, hb => by
    simp only [nestC, renL, nest_ren ha hb]
    congr 1
    split
    · simp [V.ren]
    · simp only [V.ren]
      rw [show sw a b (K + i) = K + i by unfold sw; rw [if_neg (by omega), if_neg (by omega)]]
end
end Go.Bx
end
section
set_option linter.unusedSimpArgs false
set_option linter.unusedVariables false
namespace Go.Bx
open Go.RowKit
section
variable {c : Ctx} {b : Bool} {is : List I} {st : St} {acc : List Lg} {K : List Lg → St → Prop}
theorem valid_keep {i : I} {v : V} {ins : List (Nat × Own)} {rd : List Nat} (h : Valid c i st { val := v, upd := callU ins ins, rd := rd, new := [] }) (hin : ∀ k o, (k, o) ∈ ins → own? st.own k = some o) (hrd : ∀ k, k ∈ keysO ins → k ∈ rd) (hnd : (keysO ins).Nodup) :
    Valid c i st { val := v, upd := [], rd := rd, new := [] } := by
  intro st1 h1 h2 h3 ops o hc β a w H Q K hK
  refine h st1 h1 h2 h3 ops o hc β a w H Q K (fun β' a' w' H' => hK β' a' w' ?_)
  have hin1 : ∀ k o, (k, o) ∈ ins → own? st1.own k = some o := fun k o hm => by rw [h2 k (hrd k (mem_keys hm))]; exact hin k o hm
  refine H'.ext ⟨fun s => rfl, fun k => ?_, fun k => ?_⟩ H.own.nodup
  · simp only [St.stp, applyU]
    rw [own?_call H.own.nodup hnd]
    cases hk : own? ins k with
    | some o => exact (hin1 k o (own?_mem hk)).symm
    | none =>
      rw [if_neg (fun hm => by obtain ⟨o, ho⟩ := key_iff.1 hm; rw [hk] at ho; cases ho)]
  · simp only [St.stp, newN, newN_mem]
    constructor
    · rintro (h | ⟨o, h⟩)
      · exact h
      · unfold callU at h
        rw [List.mem_append] at h
        rcases h with h | h
        · obtain ⟨p, _, hp⟩ := List.mem_map.1 h; cases hp
        · obtain ⟨p, hp, e⟩ := List.mem_map.1 h
          cases e
          exact H.kn _ (mem_keys (own?_mem (hin1 p.1 p.2 hp)))
    · exact .inl
theorem valid_gd_keep {d : Option Nat} {s : Nat} {want gc : Bool} {q : O} {res : V} {rd : List Nat} (hg : gOf st.env s want = some gc) (h : gc = true → Valid c ⟨d, none, q⟩ st { val := res, upd := [], rd := rd, new := [] }) :
    Valid c ⟨d, some (s, want), q⟩ st { val := .gd gc res, upd := [], rd := rd, new := [] } := by
  intro st1 h1 h2 h3 ops o hc β a w H Q K hK
  cases gc with
  | true =>
    refine valid_on hg (h rfl) st1 h1 h2 h3 ops o hc β a w H Q K (fun β' a' w' H' => hK β' a' w' ?_)
    simp only [St.stp, applyU, newN] at H' ⊢
    cases d with
    | none => exact H'
    | some d' =>
      simp only [setE] at H' ⊢
      refine ⟨H'.sz, H'.df, fun s' => ?_, H'.own, H'.fr, H'.kn, H'.nm, H'.kp, H'.fx⟩
      have h5 := H'.env s'
      simp only [Go.Bx.get] at h5 ⊢
      split
      · rename_i e
        rw [if_pos e] at h5
        exact .gd _ _ _ (fun _ => h5) (fun h => by cases h)
      · rename_i e
        rw [if_neg e] at h5
        exact h5
  | false =>
    obtain ⟨j, hgo, hj⟩ := guard_of hc
    have hw := wanted_ok H hgo hj (by rw [gOf_congr h1]; exact hg)
    rw [if_neg (by rw [hw]; simp)]
    have hdst := hc.dst
    simp only at hdst
    refine hK β _ w ?_
    rw [hdst]
    simp only [St.stp, applyU, newN]
    cases d with
    | none => exact H
    | some d' => exact H.setV (hc.lt d' rfl) (.gd _ _ _ (fun h => by cases h) (fun _ => rfl))
theorem TR.keep {d : Option Nat} {q : O} (rd : List Nat) (res : V) (hv : Valid c ⟨d, none, q⟩ st { val := res, upd := [], rd := rd, new := [] })
    (h : vcR c b is (st.stp d { val := res, upd := [], rd := rd, new := [] }) (lgs b acc ⟨rd, []⟩) K) : TR c b (⟨d, none, q⟩ :: is) st acc K :=
  TR.cons { val := res, upd := [], rd := rd, new := [] } hv (fun k hk => by simp at hk) (vcR_ok h)
theorem TR.gkeep {d : Option Nat} {s : Nat} {want gc : Bool} {q : O} (rd : List Nat) (res : V) (hg : gOf st.env s want = some gc) (hv : gc = true → Valid c ⟨d, none, q⟩ st { val := res, upd := [], rd := rd, new := [] })
    (h : vcR c b is (st.stp d { val := .gd gc res, upd := [], rd := rd, new := [] }) (lgs b acc ⟨rd, []⟩) K) : TR c b (⟨d, some (s, want), q⟩ :: is) st acc K :=
  TR.cons { val := .gd gc res, upd := [], rd := rd, new := [] } (valid_gd_keep hg hv) (fun k hk => by simp at hk) (vcR_ok h)
theorem hin1 {own : List (Nat × Own)} {k : Nat} {o : Own} (h : own? own k = some o) : ∀ k' o', (k', o') ∈ [(k, o)] → own? own k' = some o' := fun k' o' hm => by
  simp at hm; obtain ⟨rfl, rfl⟩ := hm; exact h
theorem hin2 {own : List (Nat × Own)} {k1 k2 : Nat} {o1 o2 : Own} (h1 : own? own k1 = some o1) (h2 : own? own k2 = some o2) : ∀ k' o', (k', o') ∈ [(k1, o1), (k2, o2)] → own? own k' = some o' := fun k' o' hm => by
  simp at hm
  rcases hm with ⟨rfl, rfl⟩ | ⟨rfl, rfl⟩
  · exact h1
  · exact h2
theorem valid_ivk1 {P : Program} (hP : c.P = P) {d : Option Nat} {name : String} {x : X} {t e : TypeId} {k off sz : Nat} {agg : Bool} {cs : List V} {f : Nat} {xs : List X} {r : Nat} {o : Own} {res : V} (hx : evV st x = .ifc t (.own k off)) (hm : mth P t name = some (f, false)) (ht : P.underlying t = some (.pointer e))
    (hz : szB P e = some sz) (hag : aggB P e = some agg) (h1z : agg = false → sz = 1) (hko : own? st.own k = some (.fix cs)) (hlt : off + sz ≤ cs.length)
    (hS : Ctr P f (cut agg cs off sz :: evVs st xs) [(r, o)] res [(r, o)] []) (hsx : evS true st x) (hs : evSs true st xs) (hr : own? st.own r = some o) :
    Valid c ⟨d, none, .ivk name x xs⟩ st { val := res, upd := [], rd := [k, r], new := [] } :=
  valid_keep (ins := [(r, o)]) (rd := [k, r]) (valid_ivl hx (by rw [hP]; exact hm) (by rw [hP]; exact ht) (by rw [hP]; exact hz) (by rw [hP]; exact hag) h1z hko hlt (by rw [hP]; exact hS) hsx hs (hin1 hr) (by simp [keysO])) (hin1 hr) (fun k hk => by simp [keysO] at hk; simp [hk]) (by simp [keysO])
end
def OwnLeS (s : Nat → Nat) (a : List (Nat × Own)) : List (Nat × Own) → Prop
  | [] => True
  | (k, o) :: l => (∃ o', own? a (s k) = some o' ∧ OLe (o'.ren s) o) ∧ OwnLeS s a l
theorem OwnLeS.get {s : Nat → Nat} {a : List (Nat × Own)} : ∀ {b : List (Nat × Own)}, OwnLeS s a b → ∀ k o, (k, o) ∈ b → ∃ o', own? a (s k) = some o' ∧ OLe (o'.ren s) o
  | [], _, k, o, h => by simp at h
  | (k', o') :: l, h, k, o, hm => by
    rcases List.mem_cons.1 hm with hm | hm
    · simp at hm; obtain ⟨rfl, rfl⟩ := hm; exact h.1
    · exact OwnLeS.get h.2 k o hm
theorem Wk.nest {X : Type} {dx : X} {cells : X → List D} {c : Ctx} {st : St} (x y : Nat) (fn : List Nat) (hfn : c.fn = fn) (hx : x ∉ fn) (hy : y ∉ fn) {env : List (Nat × V)} {A : List (Nat × Own)} {N : List Nat} {K' K τ e' e sz : Nat} {G : List (List X)}
    (hB : wkB fn ⟨env, (K', .lit e' 1 0 []) :: A, N⟩ = true) (hN : N.all (fun k => decide (k < K)) = true) (he : EnvLe (renE (Go.Bx.sw x y) st.env) env) (hA : OwnLeS (Go.Bx.sw x y) st.own A)
    (hl : ∃ o', own? st.own (Go.Bx.sw x y K') = some o' ∧ OLe (o'.ren (Go.Bx.sw x y)) (.lit e' 1 G.length (nestC dx cells K τ sz 0 G)))
    (hi : ∀ i g, G[i]? = some g → τ < g.length → ∃ o', own? st.own (Go.Bx.sw x y (K + i)) = some o' ∧ OLe (o'.ren (Go.Bx.sw x y)) (.row e sz g.length (fun j => cells (g.getD j dx)))) :
    Wk c st ⟨env, (K', .lit e' 1 G.length (nestC dx cells K τ sz 0 G)) :: (A ++ nestO dx cells K τ e sz 0 G), N ++ nmN K G.length⟩ := by
  simp only [wkB, Bool.and_eq_true, List.all_eq_true, List.contains_iff_mem] at hB
  obtain ⟨h1, h2, h3, h4⟩ := hB
  have h2 := nodupB_ok h2
  simp only [keysO, List.map_cons, List.nodup_cons] at h2
  have hlt : ∀ k, k ∈ N → k < K := fun k hk => by simpa using List.all_eq_true.1 hN k hk
  have hKN : K' ∈ N := h4 _ (oNames_in (List.mem_cons_self)).1
  have hAN : ∀ k, k ∈ keysO A → k ∈ N := fun k hk => by
    obtain ⟨o, ho⟩ := keys_mem hk
    exact h4 _ (oNames_in (List.mem_cons_of_mem _ ho)).1
  have hnest : ∀ k, k ∈ keysO (nestO dx cells K τ e sz 0 G) → K ≤ k ∧ k < K + G.length := fun k hk => by
    have := nestO_key hk; omega
  refine Wk.rn x y fn hfn hx hy he (fun k o hm => ?_) ?_ (fun k hk => ?_) (fun k hk => List.mem_append_left _ (h1 k hk)) (fun s v hm k hk => List.mem_append_left _ (h3 k (envNames_in hm k hk))) (fun k o hm j hj => ?_)
  · rcases List.mem_cons.1 hm with hm | hm
    · simp only [Prod.mk.injEq] at hm
      obtain ⟨rfl, rfl⟩ := hm
      exact hl
    · rcases List.mem_append.1 hm with hm | hm
      · exact hA.get k o hm
      · obtain ⟨j, g, g1, g2, rfl, rfl⟩ := nestO_mem hm
        rw [Nat.zero_add]
        exact hi j g g1 g2
  · simp only [keysO, List.map_cons, List.map_append, List.nodup_cons, List.mem_append, not_or]
    refine ⟨⟨h2.1, fun hk => ?_⟩, List.nodup_append.2 ⟨h2.2, nestO_nodup, fun a ha b hb hab => ?_⟩⟩
    · have := hlt _ hKN
      have := hnest _ hk
      omega
    · have := hlt _ (hAN a ha)
      have := hnest b hb
      omega
  · simp only [keysO, List.map_cons, List.map_append, List.mem_cons, List.mem_append] at hk
    rcases hk with rfl | hk | hk
    · exact List.mem_append_left _ hKN
    · exact List.mem_append_left _ (hAN k hk)
    · exact List.mem_append_right _ (mem_nmN.2 (hnest k hk))
  · rcases List.mem_cons.1 hm with hm | hm
    · simp only [Prod.mk.injEq] at hm
      obtain ⟨rfl, rfl⟩ := hm
      have := nestC_names hj
      exact List.mem_append_right _ (mem_nmN.2 (by omega))
    · rcases List.mem_append.1 hm with hm | hm
      · exact List.mem_append_left _ (h4 _ ((oNames_in (List.mem_cons_of_mem _ hm)).2 j hj))
      · obtain ⟨j', g, g1, g2, rfl, rfl⟩ := nestO_mem hm
        simp at hj
theorem own?_nestD {X : Type} {dx : X} {cells : X → List D} {K τ e sz i : Nat} {G : List (List X)} (k k1 : Nat) : own? (delO (nestO dx cells K τ e sz i G) k) k1 = if k1 = k then none else own? (nestO dx cells K τ e sz i G) k1 := own?_delO nestO_nodup k k1
end Go.Bx
end
section
set_option linter.unusedSimpArgs false
set_option linter.unusedVariables false
namespace Go.Bx
open Go.RowKit
section
variable {X : Type} {dx : X} {cells : X → List D}
theorem Wk.nestPush {c : Ctx} {st : St} (d i : Nat) (g' : List X) (fn : List Nat) (hfn : c.fn = fn) {env : List (Nat × V)} {A : List (Nat × Own)} {N : List Nat} {K' K τ e' e sz : Nat} {G : List (List X)} (hd : d < K) (hK' : K' < K) (hdK : d ≠ K') (hx : d ∉ fn) (hy : K + i ∉ fn)
    (hB : wkB fn ⟨env, (K', .lit e' 1 0 []) :: A, N⟩ = true) (hN : N.all (fun k => decide (k < K)) = true) (he : EnvLe (renE (Go.Bx.sw d (K + i)) st.env) env) (hA : OwnLeS (Go.Bx.sw d (K + i)) st.own A)
    (hil : i < G.length) (hτ : τ < g'.length) (hl : own? st.own K' = some (.lit e' 1 G.length (putV (nestC dx cells K τ sz 0 G) i [.osl d])))
    (hr : ∃ n F, own? st.own d = some (.row e sz n F) ∧ n = g'.length ∧ ∀ q, q < g'.length → F q = cells (g'.getD q dx))
    (hi : ∀ j, j ≠ i → own? st.own (K + j) = own? (nestO dx cells K τ e sz 0 G) (K + j)) :
    Wk c st ⟨env, (K', .lit e' 1 G.length (nestC dx cells K τ sz 0 (G.set i g'))) :: (A ++ nestO dx cells K τ e sz 0 (G.set i g')), N ++ nmN K G.length⟩ := by
  obtain ⟨n, F, q6, rfl, q7⟩ := hr
  have hsw : Go.Bx.sw d (K + i) K' = K' := by unfold Go.Bx.sw; rw [if_neg (by omega), if_neg (by omega)]
  have hlen : (G.set i g').length = G.length := by simp
  rw [← hlen]
  refine Wk.nest d (K + i) fn hfn hx hy hB hN he hA ⟨_, by rw [hsw]; exact hl, ?_⟩ (fun j g hg1 hg2 => ?_)
  · have hp := putV_nest (dx := dx) (cells := cells) (K := K) (τ := τ) (sz := sz) (i0 := 0) (i := i) (g := g') hil hτ d
    rw [if_pos hd, Nat.zero_add] at hp
    simp only [Own.ren, hp, List.length_set]
    exact OLe.refl _
  · by_cases ej : j = i
    · subst ej
      rw [List.getElem?_set_self hil] at hg1
      cases hg1
      have hsj : Go.Bx.sw d (K + j) (K + j) = d := by unfold Go.Bx.sw; rw [if_neg (by omega), if_pos rfl]
      exact ⟨.row e sz g'.length F, by rw [hsj]; exact q6, OLe.row rfl q7⟩
    · rw [List.getElem?_set_ne (fun g => ej g.symm)] at hg1
      refine ⟨.row e sz g.length (fun q => cells (g.getD q dx)), ?_, OLe.refl _⟩
      rw [show Go.Bx.sw d (K + i) (K + j) = K + j by unfold Go.Bx.sw; rw [if_neg (by omega), if_neg (by omega)], hi j ej, nestO_own, if_pos (by omega), show K + j - (K + 0) = j by omega, hg1]
      simp only
      rw [if_pos hg2]
theorem Wk.nestKeep {c : Ctx} {st : St} (x y : Nat) (fn : List Nat) (hfn : c.fn = fn) {env : List (Nat × V)} {A : List (Nat × Own)} {N : List Nat} {K' K τ e' e sz : Nat} {G : List (List X)} (hxK : x < K) (hyK : y < K) (hx' : K' ≠ x) (hy' : K' ≠ y) (hx : x ∉ fn) (hy : y ∉ fn)
    (hB : wkB fn ⟨env, (K', .lit e' 1 0 []) :: A, N⟩ = true) (hN : N.all (fun k => decide (k < K)) = true) (he : EnvLe (renE (Go.Bx.sw x y) st.env) env) (hA : OwnLeS (Go.Bx.sw x y) st.own A)
    (hl : own? st.own K' = some (.lit e' 1 G.length (nestC dx cells K τ sz 0 G)))
    (hi : ∀ j, own? st.own (K + j) = own? (nestO dx cells K τ e sz 0 G) (K + j)) :
    Wk c st ⟨env, (K', .lit e' 1 G.length (nestC dx cells K τ sz 0 G)) :: (A ++ nestO dx cells K τ e sz 0 G), N ++ nmN K G.length⟩ := by
  have hsw : Go.Bx.sw x y K' = K' := by unfold Go.Bx.sw; rw [if_neg hx', if_neg hy']
  refine Wk.nest x y fn hfn hx hy hB hN he hA ⟨_, by rw [hsw]; exact hl, ?_⟩ (fun j g hg1 hg2 => ?_)
  · simp only [Own.ren, nest_ren hxK hyK]
    exact OLe.refl _
  · refine ⟨.row e sz g.length (fun q => cells (g.getD q dx)), ?_, OLe.refl _⟩
    rw [show Go.Bx.sw x y (K + j) = K + j by unfold Go.Bx.sw; rw [if_neg (by omega), if_neg (by omega)], hi j, nestO_own, if_pos (by omega), show K + j - (K + 0) = j by omega, hg1]
    simp only
    rw [if_pos hg2]
end
end Go.Bx
end
section
set_option linter.unusedSimpArgs false
set_option linter.unusedVariables false
namespace Go.Bx
set_option maxRecDepth 10000
set_option linter.defProp false
theorem vcl :
  (∀ a, isCall (.mov a) = false) ∧
  (∀ a, makes (.mov a) = false) ∧
  (∀ a b c, isCall (.pick a b c) = false) ∧
  (∀ a b c, makes (.pick a b c) = false) ∧
  (∀ a b, isCall (.alloc a b) = false) ∧
  (∀ a b, isCall (.box a b) = false) ∧
  (∀ a b, isCall (.build a b) = false) ∧
  (∀ a b, makes (.build a b) = false) ∧
  (∀ a b c d, isCall (.bslice a b c d) = false) ∧
  (∀ a b c, isCall (.load a b c) = false) ∧
  (∀ a b c, makes (.load a b c) = false) ∧
  (∀ a b c, isCall (.store a b c) = false) ∧
  (∀ a b c, makes (.store a b c) = false) ∧
  (∀ a b c, isCall (.bin a b c) = false) ∧
  (∀ a b c, makes (.bin a b c) = false) ∧
  (∀ a b c, isCall (.beq a b c) = false) ∧
  (∀ a b c, makes (.beq a b c) = false) ∧
  (∀ a b c d e, isCall (.eqa a b c d e) = false) ∧
  (∀ a b c d e, makes (.eqa a b c d e) = false) ∧
  (∀ a b, isCall (.isnil a b) = false) ∧
  (∀ a b, makes (.isnil a b) = false) ∧
  (∀ a b c, isCall (.shf a b c) = false) ∧
  (∀ a b c, makes (.shf a b c) = false) ∧
  (∀ a b, isCall (.inv a b) = false) ∧
  (∀ a b, makes (.inv a b) = false) ∧
  (∀ a b, isCall (.conv a b) = false) ∧
  (∀ a b, makes (.conv a b) = false) ∧
  (∀ a b c d, isCall (.fld a b c d) = false) ∧
  (∀ a b c d, makes (.fld a b c d) = false) ∧
  (∀ a b, isCall (.fadr a b) = false) ∧
  (∀ a b, makes (.fadr a b) = false) ∧
  (∀ a, isCall (.nilc a) = false) ∧
  (∀ a, makes (.nilc a) = false) ∧
  (∀ a b c, isCall (.iadr a b c) = false) ∧
  (∀ a b c, makes (.iadr a b c) = false) ∧
  (∀ a b c d, isCall (.aadr a b c d) = false) ∧
  (∀ a b c d, makes (.aadr a b c d) = false) ∧
  (∀ a b c d e, isCall (.idx a b c d e) = false) ∧
  (∀ a b c d e, makes (.idx a b c d e) = false) ∧
  (∀ a b, isCall (.sidx a b) = false) ∧
  (∀ a b, makes (.sidx a b) = false) ∧
  (∀ a b, isCall (.ext a b) = false) ∧
  (∀ a b, makes (.ext a b) = false) ∧
  (∀ a, isCall (.len a) = false) ∧
  (∀ a, makes (.len a) = false) ∧
  (∀ a b c, isCall (.mkfn a b c) = false) ∧
  (∀ a b c, makes (.mkfn a b c) = false) ∧
  (∀ a b c, isCall (.mm a b c) = false) ∧
  (∀ a b c, makes (.mm a b c) = false) ∧
  (∀ a b c d e f, isCall (.mks a b c d e f) = false) ∧
  (∀ a b c d e, isCall (.slc a b c d e) = false) ∧
  (∀ a b c d e, makes (.slc a b c d e) = false) ∧
  (∀ a b c, makes (.asl a b c) = false) ∧
  (∀ a b c, isCall (.cpy a b c) = false) ∧
  (∀ a b c, makes (.cpy a b c) = false) ∧
  (∀ a b c d e, isCall (.app a b c d e) = false) ∧
  (∀ a b, isCall (.mkifc a b) = false) ∧
  (∀ a b, makes (.mkifc a b) = false) ∧
  (∀ a b c, isCall (.tas a b c) = false) ∧
  (∀ a b c, makes (.tas a b c) = false) ∧
  (∀ a, isCall (.mkmap a) = false) ∧
  (∀ a b c, isCall (.lkp a b c) = false) ∧
  (∀ a b c, makes (.lkp a b c) = false) ∧
  (∀ a b c, isCall (.mup a b c) = false) ∧
  (∀ a b c, makes (.mup a b c) = false) ∧
  (isCall .never = false) ∧
  (makes .never = false) ∧
  (∀ a, isCall (.cap a) = false) ∧
  (∀ a, makes (.cap a) = false) ∧
  (∀ a b c d e f, isCall (.apz a b c d e f) = false) ∧
  (∀ a b c, makes (.ivk a b c) = false) ∧
  (∀ a b, makes (.call a b) = false) ∧
  (∀ a b, makes (.callv a b) = false) ∧
  (∀ l, toDs (.un :: l) = none) ∧
  (∀ a, isCell (.d a) = true) ∧
  (∀ a, cellsV (.d a) = some [(.d a)]) ∧
  (∀ a, isCell (.mem a) = true) ∧
  (∀ a, cellsV (.mem a) = some [(.mem a)]) ∧
  (∀ a l, toDs ((.mem a) :: l) = none) ∧
  (∀ a b, isCell (.own a b) = true) ∧
  (∀ a b, cellsV (.own a b) = some [(.own a b)]) ∧
  (∀ a b l, toDs ((.own a b) :: l) = none) ∧
  (∀ a, isCell (.osl a) = true) ∧
  (∀ a, cellsV (.osl a) = some [(.osl a)]) ∧
  (∀ a l, toDs ((.osl a) :: l) = none) ∧
  (∀ a b c d, isCell (.osub a b c d) = true) ∧
  (∀ a b c d, cellsV (.osub a b c d) = some [(.osub a b c d)]) ∧
  (∀ a b c d l, toDs ((.osub a b c d) :: l) = none) ∧
  (∀ a b c d, isCell (.optr a b c d) = true) ∧
  (∀ a b c d, cellsV (.optr a b c d) = some [(.optr a b c d)]) ∧
  (∀ a b c d l, toDs ((.optr a b c d) :: l) = none) ∧
  (∀ a b c, isCell (.fn a b c) = true) ∧
  (∀ a b c, cellsV (.fn a b c) = some [(.fn a b c)]) ∧
  (∀ a b c l, toDs ((.fn a b c) :: l) = none) ∧
  (∀ a b, isCell (.ifc a b) = true) ∧
  (∀ a b, cellsV (.ifc a b) = some [(.ifc a b)]) ∧
  (∀ a b l, toDs ((.ifc a b) :: l) = none) ∧
  (∀ a l, toDs ((.ag a) :: l) = none) ∧
  (∀ a l, toDs ((.tup a) :: l) = none) ∧
  (∀ a b l, toDs ((.gd a b) :: l) = none) ∧
  (∀ n, dropV [] (n + 1) = []) ∧
  (∀ n, takeV [] (n + 1) = []) ∧
  (∀ n, dropD [] (n + 1) = []) ∧
  (∀ n, takeDV [] (n + 1) = []) ∧
  (∀ v l n, putV (v :: l) n [] = v :: l) ∧
  (∀ v l n y ys, putV (v :: l) (n + 1) (y :: ys) = v :: putV l n (y :: ys)) ∧
  (∀ st p d x, opR st p d (.inv .not x) = match evV st x with | .d (.bool a) => { side := evS p st x, val := .d (.bool (!a)) } | _ => .bad) ∧
  (∀ st p d x, opR st p d (.inv .neg x) = match evV st x with | .d (.int k a) => { side := evS p st x, val := .d (.int k (k.wrap (0 - a))) } | _ => .bad) :=
  ⟨fun _ => rfl, fun _ => rfl, fun _ _ _ => rfl, fun _ _ _ => rfl, fun _ _ => rfl, fun _ _ => rfl, fun _ _ => rfl, fun _ _ => rfl, fun _ _ _ _ => rfl, fun _ _ _ => rfl, fun _ _ _ => rfl, fun _ _ _ => rfl, fun _ _ _ => rfl, fun _ _ _ => rfl, fun _ _ _ => rfl, fun _ _ _ => rfl, fun _ _ _ => rfl, fun _ _ _ _ _ => rfl, fun _ _ _ _ _ => rfl, fun _ _ => rfl, fun _ _ => rfl, fun _ _ _ => rfl, fun _ _ _ => rfl, fun _ _ => rfl, fun _ _ => rfl, fun _ _ => rfl, fun _ _ => rfl, fun _ _ _ _ => rfl, fun _ _ _ _ => rfl, fun _ _ => rfl, fun _ _ => rfl, fun _ => rfl, fun _ => rfl, fun _ _ _ => rfl, fun _ _ _ => rfl, fun _ _ _ _ => rfl, fun _ _ _ _ => rfl, fun _ _ _ _ _ => rfl, fun _ _ _ _ _ => rfl, fun _ _ => rfl, fun _ _ => rfl, fun _ _ => rfl, fun _ _ => rfl, fun _ => rfl, fun _ => rfl, fun _ _ _ => rfl, fun _ _ _ => rfl, fun _ _ _ => rfl, fun _ _ _ => rfl, fun _ _ _ _ _ _ => rfl, fun _ _ _ _ _ => rfl, fun _ _ _ _ _ => rfl, fun _ _ _ => rfl, fun _ _ _ => rfl, fun _ _ _ => rfl, fun _ _ _ _ _ => rfl, fun _ _ => rfl, fun _ _ => rfl, fun _ _ _ => rfl, fun _ _ _ => rfl, fun _ => rfl, fun _ _ _ => rfl, fun _ _ _ => rfl, fun _ _ _ => rfl, fun _ _ _ => rfl, rfl, rfl, fun _ => rfl, fun _ => rfl, fun _ _ _ _ _ _ => rfl, fun _ _ _ => rfl, fun _ _ => rfl, fun _ _ => rfl, fun _ => rfl, fun _ => rfl, fun _ => rfl, fun _ => rfl, fun _ => rfl, fun _ _ => rfl, fun _ _ => rfl, fun _ _ => rfl, fun _ _ _ => rfl, fun _ => rfl, fun _ => rfl, fun _ _ => rfl, fun _ _ _ _ => rfl, fun _ _ _ _ => rfl, fun _ _ _ _ _ => rfl, fun _ _ _ _ => rfl, fun _ _ _ _ => rfl, fun _ _ _ _ _ => rfl, fun _ _ _ => rfl, fun _ _ _ => rfl, fun _ _ _ _ => rfl, fun _ _ => rfl, fun _ _ => rfl, fun _ _ _ => rfl, fun _ _ => rfl, fun _ _ => rfl, fun _ _ _ => rfl, fun _ => rfl, fun _ => rfl, fun _ => rfl, fun _ => rfl, fun _ _ _ => rfl, fun _ _ _ _ _ => rfl, fun st p d x => by cases h : evV st x with | d y => (cases y <;> simp [opR, h]) | _ => simp [opR, h], fun st p d x => by cases h : evV st x with | d y => (cases y <;> simp [opR, h]) | _ => simp [opR, h]⟩
theorem enl :
  (VsLe [] [] = True) ∧
  (∀ x xs y ys, VsLe (x :: xs) (y :: ys) = (VLe x y ∧ VsLe xs ys)) ∧
  (∀ x xs, VsLe (x :: xs) [] = False) ∧
  (∀ x xs, VsLe [] (x :: xs) = False) :=
  ⟨rfl, fun _ _ _ _ => rfl, fun _ _ => rfl, fun _ _ => rfl⟩
theorem rsl :
  (∀ st r, retV st [r] = resV st r) ∧
  (∀ st, retV st [] = .tup (ressV st [])) ∧
  (∀ st r r2 l, retV st (r :: r2 :: l) = .tup (ressV st (r :: r2 :: l))) :=
  ⟨fun _ _ => rfl, fun _ => rfl, fun _ _ _ _ => rfl⟩
def vcb :=
  And.intro vcl
  (And.intro
  (And.intro
  (And.intro
  (And.intro
  (And.intro
  (And.intro
  (And.intro
  (And.intro (@Go.Bx.vcC_seq) (@Go.Bx.vcC_reg))
  (And.intro (@Go.Bx.vcC_drw)
  (And.intro (@Go.Bx.vcC_skip) (@Go.Bx.vcC_cond))))
  (And.intro
  (And.intro (@Go.Bx.vcC_block) (@Go.Bx.vcC_exit))
  (And.intro (@Go.Bx.vcC_ret)
  (And.intro (@Go.Bx.vcC_bad) (@Go.Bx.seqK_nrm)))))
  (And.intro
  (And.intro
  (And.intro (@Go.Bx.seqK_exit) (@Go.Bx.seqK_ret))
  (And.intro (@Go.Bx.blkK_nrm)
  (And.intro (@Go.Bx.blkK_exit) (@Go.Bx.blkK_ret))))
  (And.intro
  (And.intro (@Go.Bx.lopK_exit)
  (And.intro (@Go.Bx.lopK_ret) (@Go.Bx.lopX_exit)))
  (And.intro (@Go.Bx.lopX_ret)
  (And.intro (@Go.Bx.jmpK_nrm) (@Go.Bx.jmpK_exit))))))
  (And.intro
  (And.intro
  (And.intro
  (And.intro (@Go.Bx.jmpK_ret) (@Go.Bx.nrmK_app))
  (And.intro (@Go.Bx.drwK_app)
  (And.intro (@Go.Bx.initE.eq_1) (@Go.Bx.initE.eq_2))))
  (And.intro
  (And.intro (@Go.Bx.vcR_nil)
  (And.intro (@Go.Bx.vcR_n) (@Go.Bx.vcR_s)))
  (And.intro (@Go.Bx.isCall.eq_1)
  (And.intro (@Go.Bx.isCall.eq_2) (@Go.Bx.isCall.eq_3)))))
  (And.intro
  (And.intro
  (And.intro (@Go.Bx.isCall.eq_4) (@Go.Bx.makes.eq_1))
  (And.intro (@Go.Bx.makes.eq_2)
  (And.intro (@Go.Bx.makes.eq_3) (@Go.Bx.makes.eq_4))))
  (And.intro
  (And.intro (@Go.Bx.makes.eq_5)
  (And.intro (@Go.Bx.makes.eq_6) (@Go.Bx.makes.eq_7)))
  (And.intro (@Go.Bx.hasU.eq_1)
  (And.intro (@Go.Bx.hasU.eq_2) (@Go.Bx.slK.eq_1)))))))
  (And.intro
  (And.intro
  (And.intro
  (And.intro
  (And.intro (@Go.Bx.newOf.eq_1) (@Go.Bx.opR.eq_1))
  (And.intro (@Go.Bx.opR.eq_2)
  (And.intro (@Go.Bx.opR.eq_3) (@Go.Bx.opR.eq_4))))
  (And.intro
  (And.intro (@Go.Bx.opR.eq_5) (@Go.Bx.opR.eq_6))
  (And.intro (@Go.Bx.opR.eq_7)
  (And.intro (@Go.Bx.opR.eq_8) (@Go.Bx.opR.eq_9)))))
  (And.intro
  (And.intro
  (And.intro (@Go.Bx.opR.eq_10) (@Go.Bx.opR.eq_11))
  (And.intro (@Go.Bx.opR.eq_12)
  (And.intro (@Go.Bx.opR.eq_13) (@Go.Bx.opR.eq_17))))
  (And.intro
  (And.intro (@Go.Bx.opR.eq_18)
  (And.intro (@Go.Bx.opR.eq_19) (@Go.Bx.opR.eq_20)))
  (And.intro (@Go.Bx.opR.eq_21)
  (And.intro (@Go.Bx.opR.eq_22) (@Go.Bx.opR.eq_23))))))
  (And.intro
  (And.intro
  (And.intro
  (And.intro (@Go.Bx.opR.eq_24) (@Go.Bx.opR.eq_25))
  (And.intro (@Go.Bx.opR.eq_26)
  (And.intro (@Go.Bx.opR.eq_27) (@Go.Bx.opR.eq_28))))
  (And.intro
  (And.intro (@Go.Bx.opR.eq_29)
  (And.intro (@Go.Bx.opR.eq_30) (@Go.Bx.opR.eq_31)))
  (And.intro (@Go.Bx.opR.eq_32)
  (And.intro (@Go.Bx.opR.eq_33) (@Go.Bx.opR.eq_34)))))
  (And.intro
  (And.intro
  (And.intro (@Go.Bx.opR.eq_35) (@Go.Bx.opR.eq_36))
  (And.intro (@Go.Bx.opR.eq_37)
  (And.intro (@Go.Bx.opR.eq_38) (@Go.Bx.opR.eq_39))))
  (And.intro
  (And.intro (@Go.Bx.opR.eq_40)
  (And.intro (@Go.Bx.opR.eq_41) (@Go.Bx.opR.eq_42)))
  (And.intro (@Go.Bx.opR.eq_43)
  (And.intro (@Go.Bx.opR.eq_44) (@Go.Bx.binI.eq_1))))))))
  (And.intro
  (And.intro
  (And.intro
  (And.intro
  (And.intro
  (And.intro (@Go.Bx.binI.eq_2) (@Go.Bx.binI.eq_3))
  (And.intro (@Go.Bx.binI.eq_4)
  (And.intro (@Go.Bx.binI.eq_5) (@Go.Bx.binI.eq_6))))
  (And.intro
  (And.intro (@Go.Bx.binI.eq_7) (@Go.Bx.binI.eq_8))
  (And.intro (@Go.Bx.binI.eq_9)
  (And.intro (@Go.Bx.binI.eq_10) (@Go.Bx.binI.eq_11)))))
  (And.intro
  (And.intro
  (And.intro (@Go.Bx.binI.eq_12) (@Go.Bx.binI.eq_13))
  (And.intro (@Go.Bx.pickV.eq_1)
  (And.intro (@Go.Bx.pickV.eq_2) (@Go.Bx.evS.eq_1))))
  (And.intro
  (And.intro (@Go.Bx.evV.eq_1)
  (And.intro (@Go.Bx.evX.eq_1) (@Go.Bx.evX.eq_2)))
  (And.intro (@Go.Bx.evSs.eq_1)
  (And.intro (@Go.Bx.evSs.eq_2) (@Go.Bx.evVs.eq_1))))))
  (And.intro
  (And.intro
  (And.intro
  (And.intro (@Go.Bx.evVs.eq_2) (@Go.Bx.evParts.eq_1))
  (And.intro (@Go.Bx.evParts.eq_2)
  (And.intro (@Go.Bx.evPartsS.eq_1) (@Go.Bx.evPartsS.eq_2))))
  (And.intro
  (And.intro (@Go.Bx.fillV.eq_1)
  (And.intro (@Go.Bx.fillV.eq_2) (@Go.Bx.catV.eq_1)))
  (And.intro (@Go.Bx.catV.eq_2)
  (And.intro (@Go.Bx.gOf.eq_1) (@Go.Bx.get.eq_1)))))
  (And.intro
  (And.intro
  (And.intro (@Go.Bx.get.eq_2) (@Go.Bx.own?.eq_1))
  (And.intro (@Go.Bx.own?.eq_2)
  (And.intro (@Go.Bx.cellsV.eq_1) (@Go.Bx.cellsV.eq_2))))
  (And.intro
  (And.intro (@Go.Bx.cellsV.eq_3)
  (And.intro (@Go.Bx.cellsV.eq_4) (@Go.Bx.isCell.eq_1)))
  (And.intro (@Go.Bx.isCell.eq_2)
  (And.intro (@Go.Bx.isCell.eq_3) (@Go.Bx.isCell.eq_4)))))))
  (And.intro
  (And.intro
  (And.intro
  (And.intro
  (And.intro (@Go.Bx.cut.eq_1) (@Go.Bx.cutD.eq_1))
  (And.intro (@Go.Bx.nth.eq_1)
  (And.intro (@Go.Bx.nth.eq_2) (@Go.Bx.nth.eq_3))))
  (And.intro
  (And.intro (@Go.Bx.nthD.eq_1) (@Go.Bx.nthD.eq_2))
  (And.intro (@Go.Bx.nthD.eq_3)
  (And.intro (@Go.Bx.dropV.eq_1) (@Go.Bx.dropV.eq_3)))))
  (And.intro
  (And.intro
  (And.intro (@Go.Bx.takeV.eq_1) (@Go.Bx.takeV.eq_3))
  (And.intro (@Go.Bx.dropD.eq_1)
  (And.intro (@Go.Bx.dropD.eq_3) (@Go.Bx.takeDV.eq_1))))
  (And.intro
  (And.intro (@Go.Bx.takeDV.eq_3)
  (And.intro (@Go.Bx.putV.eq_1) (@Go.Bx.putV.eq_3)))
  (And.intro (@Go.Bx.toDs.eq_1)
  (And.intro (@Go.Bx.toDs.eq_2) (@Go.Bx.St.stp.eq_1))))))
  (And.intro
  (And.intro
  (And.intro
  (And.intro (@Go.Bx.Ef.stp.eq_1) (@Go.Bx.Stp.lg.eq_1))
  (And.intro (@Go.Bx.lgs.eq_1)
  (And.intro (@Go.Bx.setE.eq_1) (@Go.Bx.setE.eq_2))))
  (And.intro
  (And.intro (@Go.Bx.applyU.eq_1)
  (And.intro (@Go.Bx.applyU.eq_2) (@Go.Bx.applyU.eq_3)))
  (And.intro (@Go.Bx.setO.eq_1)
  (And.intro (@Go.Bx.setO.eq_2) (@Go.Bx.delO.eq_1)))))
  (And.intro
  (And.intro
  (And.intro (@Go.Bx.delO.eq_2) (@Go.Bx.newN.eq_1))
  (And.intro (@Go.Bx.newN.eq_2)
  (And.intro (@Go.Bx.newN.eq_3) (@Go.Bx.keysO.eq_1))))
  (And.intro
  (And.intro (@Go.Bx.callU.eq_1)
  (And.intro (@Go.Bx.Ef.bad.eq_1) (@Option.getD_some.{0})))
  (And.intro (@Option.getD_none.{0})
  (And.intro (@Option.map_some.{0,0}) (@Option.map_none.{0,0})))))))))
  (And.intro
  (And.intro
  (And.intro
  (And.intro
  (And.intro
  (And.intro
  (And.intro (@List.all_cons.{0}) (@List.all_nil.{0}))
  (And.intro (@List.map_cons.{0,0})
  (And.intro (@List.map_nil.{0,0}) (@List.append_nil.{0}))))
  (And.intro
  (And.intro (@List.nil_append.{0}) (@List.cons_append.{0}))
  (And.intro (@List.length_cons.{0})
  (And.intro (@List.length_nil.{0}) (@List.mem_cons.{0})))))
  (And.intro
  (And.intro
  (And.intro (@List.not_mem_nil.{0}) (@Bool.and_true))
  (And.intro (@Bool.true_and)
  (And.intro (@Bool.and_self) (@Bool.not_true))))
  (And.intro
  (And.intro (@Bool.not_false)
  (And.intro (@Bool.or_self) (@Bool.or_false)))
  (And.intro (@Bool.false_or)
  (And.intro (@Bool.false_eq_true) (@Bool.true_eq_false))))))
  (And.intro
  (And.intro
  (And.intro
  (And.intro (@Bool.cond_true_left) (@Bool.cond_false_right))
  (And.intro (@cond_true.{1})
  (And.intro (@cond_true.{0}) (@cond_false.{1}))))
  (And.intro
  (And.intro (@cond_false.{0})
  (And.intro (@if_true.{1}) (@if_true.{0})))
  (And.intro (@if_false.{1})
  (And.intro (@if_false.{0}) (@true_and)))))
  (And.intro
  (And.intro
  (And.intro (@and_true) (@and_self))
  (And.intro (@false_and)
  (And.intro (@and_false) (@or_false))))
  (And.intro
  (And.intro (@false_or)
  (And.intro (@not_false_eq_true) (@not_true_eq_false)))
  (And.intro (@forall_const.{1})
  (And.intro (@forall_const.{0}) (@true_implies)))))))
  (And.intro
  (And.intro
  (And.intro
  (And.intro
  (And.intro (@false_implies) (@implies_true.{1}))
  (And.intro (@implies_true.{0})
  (And.intro (@imp_self) (@eq_self.{1}))))
  (And.intro
  (And.intro (@eq_self.{0}) (@ne_eq.{1}))
  (And.intro (@ne_eq.{0})
  (And.intro (@Nat.zero_add) (@Nat.add_zero)))))
  (And.intro
  (And.intro
  (And.intro (@Nat.le_refl) (@Nat.succ_ne_self))
  (And.intro (@Nat.one_ne_zero)
  (And.intro (@Nat.zero_ne_one) (@Int.toNat_natCast))))
  (And.intro
  (And.intro (@Go.Bx.litRow.eq_1)
  (And.intro (@List.drop_succ_cons.{0}) (@List.drop_zero.{0})))
  (And.intro (@List.take_succ_cons.{0})
  (And.intro (@List.take_zero.{0}) (@Go.Bx.pubE.eq_1))))))
  (And.intro
  (And.intro
  (And.intro
  (And.intro (@Go.Bx.pubE.eq_2) (@Go.Bx.pubV.eq_1))
  (And.intro (@Go.Bx.pubV.eq_2)
  (And.intro (@Go.Bx.pubV.eq_3) (@Go.Bx.pubV.eq_4))))
  (And.intro
  (And.intro (@Go.Bx.pubV.eq_5)
  (And.intro (@Go.Bx.pubV.eq_6) (@Go.Bx.pubV.eq_7)))
  (And.intro (@Go.Bx.pubV.eq_8)
  (And.intro (@Go.Bx.pubV.eq_9) (@Go.Bx.pubV.eq_10)))))
  (And.intro
  (And.intro
  (And.intro (@Go.Bx.pubV.eq_11) (@Go.Bx.pubV.eq_12))
  (And.intro (@Go.Bx.pubL.eq_1)
  (And.intro (@Go.Bx.pubL.eq_2) (@Go.Bx.pubO.eq_1))))
  (And.intro
  (And.intro (@Go.Bx.pubO.eq_2)
  (And.intro (@Go.Bx.pubO.eq_3) (@Go.Bx.pubO.eq_4)))
  (And.intro (@Go.Bx.pubO.eq_5)
  (And.intro (@Go.Bx.pubFE.eq_1) (@Go.Bx.pubFE.eq_2))))))))
  (And.intro
  (And.intro
  (And.intro
  (And.intro
  (And.intro
  (And.intro (@Go.Bx.pubFV.eq_1) (@Go.Bx.pubFV.eq_2))
  (And.intro (@Go.Bx.pubFV.eq_3)
  (And.intro (@Go.Bx.pubFV.eq_4) (@Go.Bx.pubFV.eq_5))))
  (And.intro
  (And.intro (@Go.Bx.pubFV.eq_6) (@Go.Bx.pubFV.eq_7))
  (And.intro (@Go.Bx.pubFV.eq_8)
  (And.intro (@Go.Bx.pubFV.eq_9) (@Go.Bx.pubFV.eq_10)))))
  (And.intro
  (And.intro
  (And.intro (@Go.Bx.pubFV.eq_11) (@Go.Bx.pubFV.eq_12))
  (And.intro (@Go.Bx.pubFL.eq_1)
  (And.intro (@Go.Bx.pubFL.eq_2) (@Go.Bx.pubFO.eq_1))))
  (And.intro
  (And.intro (@Go.Bx.pubFO.eq_2)
  (And.intro (@Go.Bx.pubFO.eq_3) (@Go.Bx.pubFO.eq_4)))
  (And.intro (@Go.Bx.pubFO.eq_5)
  (And.intro (@Go.Bx.delO.eq_1) (@Go.Bx.delO.eq_2))))))
  (And.intro
  (And.intro
  (And.intro
  (And.intro (@Go.Bx.eqS.eq_1) (@Go.Bx.eqS.eq_2))
  (And.intro (@Go.Bx.eqS.eq_3)
  (And.intro (@Go.Bx.eqB.eq_1) (@Go.Bx.eqB.eq_2))))
  (And.intro
  (And.intro (@Go.Bx.eqB.eq_3)
  (And.intro (@Nat.not_lt_zero) (@Nat.sub_zero)))
  (And.intro (@decide_true)
  (And.intro (@decide_false) (@true_or)))))
  (And.intro
  (And.intro
  (And.intro (@or_true) (@Int.le_refl))
  (And.intro (@Int.cast_ofNat_Int)
  (And.intro (@beq_self_eq_true.{0}) (@Nat.mul_one))))
  (And.intro
  (And.intro (@Nat.one_mul)
  (And.intro (@Nat.zero_mul) (@Go.Bx.V.ren.eq_1)))
  (And.intro (@Go.Bx.V.ren.eq_2)
  (And.intro (@Go.Bx.V.ren.eq_3) (@Go.Bx.V.ren.eq_4)))))))
  (And.intro
  (And.intro
  (And.intro
  (And.intro
  (And.intro (@Go.Bx.V.ren.eq_5) (@Go.Bx.V.ren.eq_6))
  (And.intro (@Go.Bx.V.ren.eq_7)
  (And.intro (@Go.Bx.V.ren.eq_8) (@Go.Bx.V.ren.eq_9))))
  (And.intro
  (And.intro (@Go.Bx.V.ren.eq_10)
  (And.intro (@Go.Bx.V.ren.eq_11) (@Go.Bx.V.ren.eq_12)))
  (And.intro (@Go.Bx.renL.eq_1)
  (And.intro (@Go.Bx.renL.eq_2) (@Go.Bx.renO.eq_1)))))
  (And.intro
  (And.intro
  (And.intro (@Go.Bx.renO.eq_2) (@Go.Bx.renE.eq_1))
  (And.intro (@Go.Bx.renE.eq_2)
  (And.intro (@Go.Bx.Own.ren.eq_1) (@Go.Bx.Own.ren.eq_2))))
  (And.intro
  (And.intro (@Go.Bx.Own.ren.eq_3)
  (And.intro (@Go.Bx.Own.ren.eq_4) (@Go.Bx.sw.eq_1)))
  (And.intro (@Go.Bx.mapE.eq_1)
  (And.intro (@Go.Bx.mapE.eq_2) (@Go.Bx.mapO.eq_1))))))
  (And.intro
  (And.intro
  (And.intro
  (And.intro (@Go.Bx.mapO.eq_2) (@Go.Bx.mapO.eq_3))
  (And.intro (@Go.Bx.mapO.eq_4)
  (And.intro (@Go.Bx.mapO.eq_5) (@Go.Bx.shrV.eq_1))))
  (And.intro
  (And.intro (@Go.Bx.shrV.eq_2)
  (And.intro (@Go.Bx.shrV.eq_3) (@Go.Bx.shrV.eq_4)))
  (And.intro (@Go.Bx.shrV.eq_5)
  (And.intro (@Go.Bx.shrV.eq_6) (@Go.Bx.shrV.eq_7)))))
  (And.intro
  (And.intro
  (And.intro (@Go.Bx.shrV.eq_8) (@Go.Bx.shrV.eq_9))
  (And.intro (@Go.Bx.shrV.eq_10)
  (And.intro (@Go.Bx.shrV.eq_11) (@Go.Bx.shrV.eq_12))))
  (And.intro
  (And.intro (@Go.Bx.shrL.eq_1)
  (And.intro (@Go.Bx.shrL.eq_2) (@Go.Bx.catR.eq_1)))
  (And.intro (@Go.Bx.catR.eq_2)
  (And.intro (@Bool.false_and) (@Bool.and_false))))))))))
def enb :=
  And.intro enl
  (And.intro
  (And.intro
  (And.intro (@Go.Bx.EnvLe.eq_1)
  (And.intro (@Go.Bx.EnvLe.eq_2) (@Go.Bx.OwnLe.eq_1)))
  (And.intro
  (And.intro (@Go.Bx.OwnLe.eq_2) (@Go.Bx.OLe_refl))
  (And.intro (@Go.Bx.VLe_refl) (@Go.Bx.VLe_int))))
  (And.intro
  (And.intro
  (And.intro (@Go.Bx.VLe_bool) (@Go.Bx.VsLe.eq_1))
  (And.intro (@Go.Bx.VsLe.eq_2) (@exists_eq_left.{1})))
  (And.intro
  (And.intro (@exists_eq_left.{0}) (@exists_eq_left'.{1}))
  (And.intro (@exists_eq_left'.{0}) (@Option.some.injEq.{0})))))
def rsb :=
  And.intro rsl
  (And.intro
  (And.intro
  (And.intro (@Go.Bx.ressS.eq_1) (@Go.Bx.ressS.eq_2))
  (And.intro (@Go.Bx.resS.eq_1) (@Go.Bx.resS.eq_2)))
  (And.intro
  (And.intro (@Go.Bx.retV.eq_1) (@Go.Bx.ressV.eq_1))
  (And.intro (@Go.Bx.ressV.eq_2)
  (And.intro (@Go.Bx.resV.eq_1) (@Go.Bx.resV.eq_2)))))
end Go.Bx
end
