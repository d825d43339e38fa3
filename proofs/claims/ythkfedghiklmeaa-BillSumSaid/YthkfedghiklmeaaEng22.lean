/-
  The engine, part 22: results; a contract out of the condition of a function's body.
-/
import Derived.Test.YthkfedghiklmeaaEng21
namespace Go.Bx
open Go.RowKit

inductive RV where
  | tmp (t : Nat)
  | cell (t sz : Nat) (agg : Bool)

/-- One result, read off the frame. -/
def resM (tmps : Array Value) : ResultVar → Sem Value
  | .tmp t => Pure.pure (tmps.getD t undef)
  | .cell a t => do loadVar t (← asAddr (tmps.getD a undef))

theorem results_eq (fn : Func) (tmps : Array Value) : results fn tmps = (do
    let vs ← fn.results.mapM (resM tmps)
    Pure.pure (if h : vs.size = 1 then vs[0] else .tuple vs)) := by
  unfold results
  congr 1

def cRes (P : Program) : ResultVar → Option RV
  | .tmp t => some (.tmp t)
  | .cell a t =>
    match szB P t, aggB P t with
    | some sz, some agg => if agg = false → sz = 1 then some (.cell a sz agg) else none
    | _, _ => none

def cRess (P : Program) : List ResultVar → Option (List RV)
  | [] => some []
  | r :: l =>
    match cRes P r, cRess P l with
    | some x, some xs => some (x :: xs)
    | _, _ => none

def resS (st : St) : RV → Prop
  | .tmp _ => True
  | .cell t sz _ =>
    match get st.env t with
    | .own k off =>
      match own? st.own k with
      | some (.fix cs) => off + sz ≤ cs.length
      | _ => False
    | _ => False
def resV (st : St) : RV → V
  | .tmp t => get st.env t
  | .cell t sz agg =>
    match get st.env t with
    | .own k off =>
      match own? st.own k with
      | some (.fix cs) => cut agg cs off sz
      | _ => .un
    | _ => .un
def ressS (st : St) : List RV → Prop
  | [] => True
  | r :: l => resS st r ∧ ressS st l
def ressV (st : St) : List RV → List V
  | [] => []
  | r :: l => resV st r :: ressV st l
/-- What a function yields: one value, or several. -/
def retV (st : St) (rs : List RV) : V :=
  match rs with
  | [r] => resV st r
  | rs => .tup (ressV st rs)

/-- What is to hold where a function returns. -/
def RetK (c : Ctx) (rs : List RV) (res : V) (outs : List (Nat × Own)) : Kont
  | .exit _, _ => False
  | .nrm, st => ∃ st1, Wk c st st1 ∧ ressS st1 rs ∧ VLe (retV st1 rs) res ∧ OwnLe st1.own outs
  | .ret, st => ∃ st1, Wk c st st1 ∧ ressS st1 rs ∧ VLe (retV st1 rs) res ∧ OwnLe st1.own outs

theorem RetK.mk {c : Ctx} {rs : List RV} {res : V} {outs : List (Nat × Own)} {st : St} (st1 : St) (h : Wk c st st1) (h1 : ressS st1 rs) (h2 : VLe (retV st1 rs) res) (h3 : OwnLe st1.own outs) : RetK c rs res outs .ret st := ⟨st1, h, h1, h2, h3⟩
theorem RetK.mk' {c : Ctx} {rs : List RV} {res : V} {outs : List (Nat × Own)} {st : St} (st1 : St) (h : Wk c st st1) (h1 : ressS st1 rs) (h2 : VLe (retV st1 rs) res) (h3 : OwnLe st1.own outs) : RetK c rs res outs .nrm st := ⟨st1, h, h1, h2, h3⟩

def initE : Nat → List V → List (Nat × V)
  | _, [] => []
  | n, v :: l => (n, v) :: initE (n + 1) l

theorem get_initE : ∀ (l : List V) (n s : Nat), get (initE n l) s = if n ≤ s then (match l[s - n]? with | some v => v | none => .un) else .un
  | [], n, s => by simp [initE, get]
  | v :: l, n, s => by
    simp only [initE, get]
    by_cases h : n = s
    · subst h; simp
    · rw [if_neg h, get_initE l (n + 1) s]
      by_cases h2 : n ≤ s
      · rw [if_pos h2, if_pos (by omega), show s - n = (s - (n + 1)) + 1 by omega]
        simp
      · rw [if_neg h2, if_neg (by omega)]

section
variable {c : Ctx} {β : Names} {st : St} {a : Act} {w : World}

theorem res_ok (H : Holds c β st a w) {r : ResultVar} {x : RV} (hc : cRes c.P r = some x) (hs : resS st x) :
    ∃ v, (resM a.tmps r).run c.P w = .ok v w ∧ RelV β (Eo c.E0 β st.own) w v (resV st x) := by
  unfold cRes at hc
  split at hc
  · rename_i t
    cases hc
    exact ⟨_, rfl, H.env t⟩
  · rename_i ad t
    split at hc
    · rename_i sz agg hz hag
      split at hc
      · rename_i h1z
        cases hc
        simp only [resS] at hs
        simp only [resV, resM]
        have he := H.env ad
        generalize a.tmps.getD ad undef = u at *
        generalize hg : get st.env ad = y at *
        cases y <;> simp only at hs
        rename_i k off
        split at hs
        · rename_i cs ho
          simp only [ho]
          obtain ⟨b, arr, e, hb, hh, hzz, hr⟩ := own_ok H ho
          cases he with
          | own _ _ b' hb' =>
            rw [hb] at hb'
            injection hb' with hb'; injection hb' with hb'; injection hb' with hb'; injection hb' with hb'
            subst hb'
            have hcell : ∀ j, j < sz → w.cell? ⟨b, off + j, none⟩ = some (arr.getD (off + j) undef) := fun j hj => by
              rw [cell_of_row w b (off + j) arr e (0, 0) hh]
              have : off + j < arr.size := by omega
              simp [this]
            have hrun := run_loadAt (P := c.P) hz hag h1z hcell
            refine ⟨(if agg then .agg ((List.range sz).map fun j => arr.getD (off + j) undef).toArray else arr.getD (off + 0) undef), ?_, ?_⟩
            · have : (Instr.loadAt t (.pointer (some ⟨b, off, none⟩))) = loadVar t ⟨b, off, none⟩ := rfl
              rw [this] at hrun
              simp only [asAddr, Sem.run_bind, Sem.run_pure, Result.andThen_ok]
              exact hrun
            · cases agg with
              | true =>
                simp only [cut, if_true]
                rw [takeV_eq, dropV_eq]
                refine .ag _ _ (by simp; omega) fun j v y hv hy => ?_
                rw [List.getElem?_take, List.getElem?_drop] at hy
                split at hy
                · rename_i hj
                  have hlt2 : off + j < arr.size := by omega
                  simp [hj, hlt2] at hv
                  exact hr (off + j) v y (by rw [Array.getElem?_eq_getElem hlt2]; simp [hv]) hy
                · cases hy
              | false =>
                simp only [cut, Bool.false_eq_true, if_false]
                have h1 := h1z rfl
                have hlt2 : off < arr.size := by omega
                have h0 : cs[off]? = some cs[off] := List.getElem?_eq_getElem (by omega)
                rw [nth_some h0]
                exact hr off _ _ (by simp [Array.getElem?_eq_getElem hlt2]) h0
        · exact hs.elim
      · cases hc
    · cases hc

theorem ress_ok (H : Holds c β st a w) : ∀ {rs : List ResultVar} {xs : List RV}, cRess c.P rs = some xs → ressS st xs →
    ∃ vs : List Value, (rs.mapM (resM a.tmps)).run c.P w = .ok vs w ∧
      vs.length = xs.length ∧ ∀ (j : Nat) (v : Value) (x : V), vs[j]? = some v → (ressV st xs)[j]? = some x → RelV β (Eo c.E0 β st.own) w v x
  | [], xs, h, _ => by simp [cRess] at h; subst h; exact ⟨[], by simp, rfl, fun j v x hv => by simp at hv⟩
  | r :: rs, xs, h, hs => by
    simp only [cRess] at h
    split at h
    · rename_i x ys h1 h2
      simp at h; subst h
      obtain ⟨v, hv, hr⟩ := res_ok H h1 hs.1
      obtain ⟨vs, hvs, hl, hrs⟩ := ress_ok H h2 hs.2
      refine ⟨v :: vs, ?_, by simp [hl], fun j u y hu hy => ?_⟩
      · simp only [List.mapM_cons, Sem.run_bind, hv, Result.andThen_ok, hvs, Sem.run_pure]
      · cases j with
        | zero => simp [ressV] at hu hy; subst hu; subst hy; exact hr
        | succ j => simp [ressV] at hu hy; exact hrs j u y hu hy
    · cases h

theorem ressV_len (st : St) : ∀ (xs : List RV), (ressV st xs).length = xs.length
  | [] => rfl
  | x :: xs => by simp [ressV, ressV_len st xs]

/-- What the function's results come to. -/
theorem results_ok (H : Holds c β st a w) {fn : Func} {xs : List RV} (hc : cRess c.P fn.results.toList = some xs) (hs : ressS st xs) :
    ∃ v, (results fn a.tmps).run c.P w = .ok v w ∧ RelV β (Eo c.E0 β st.own) w v (retV st xs) := by
  obtain ⟨vs, hvs, hl, hr⟩ := ress_ok H hc hs
  have hm : (fn.results.mapM (resM a.tmps)).run c.P w = .ok vs.toArray w := by
    rw [Array.mapM_eq_mapM_toList]
    simp only [Sem.run_map, hvs, Result.andThen_ok]
  have hrun : (results fn a.tmps).run c.P w = .ok (if h : vs.toArray.size = 1 then vs.toArray[0] else .tuple vs.toArray) w := by
    rw [results_eq]
    simp only [Sem.run_bind, hm, Result.andThen_ok, Sem.run_pure]
  refine ⟨_, hrun, ?_⟩
  match xs, vs, hl, hr with
  | [r], [v], _, hr =>
    simp only [List.size_toArray, List.length_singleton, dif_pos]
    exact hr 0 v _ rfl (by simp [ressV, retV])
  | [], [], _, _ =>
    simp only [List.size_toArray, List.length_nil, Nat.zero_ne_one, dif_neg, not_false_eq_true]
    exact .tup _ _ (by simp [ressV]) fun j v x hv hx => by simp at hv
  | r1 :: r2 :: rs, v1 :: v2 :: vs, hl, hr =>
    have h1 : ¬ (v1 :: v2 :: vs).toArray.size = 1 := by simp
    rw [dif_neg h1]
    exact .tup _ _ (by simp [ressV_len, ressV]; simpa using hl) fun j v x hv hx => hr j v x (by simpa using hv) hx

end

def ownNames : List (Nat × Own) → List Nat
  | [] => []
  | (k, .fix cs) :: l => k :: (namesL cs ++ ownNames l)
  | (k, .lit _ _ cs) :: l => k :: (namesL cs ++ ownNames l)
  | (k, .row _ _ _ _) :: l => k :: ownNames l

theorem ownNames_key : ∀ {l : List (Nat × Own)} {k : Nat}, k ∈ keysO l → k ∈ ownNames l
  | [], k, h => by simp [keysO] at h
  | (k', o) :: l, k, h => by
    simp only [keysO, List.map_cons, List.mem_cons] at h
    cases o <;> simp only [ownNames, List.mem_cons, List.mem_append] <;> rcases h with h | h <;> first
      | exact .inl h
      | exact .inr (.inr (ownNames_key h))
      | exact .inr (ownNames_key h)

theorem ownNames_in : ∀ {l : List (Nat × Own)} {k : Nat} {o : Own}, (k, o) ∈ l → ∀ j, j ∈ (match o with | .fix cs => namesL cs | .lit _ _ cs => namesL cs | .row _ _ _ _ => []) → j ∈ ownNames l
  | [], k, o, h => by simp at h
  | (k', o') :: l, k, o, h => fun j hj => by
    rcases List.mem_cons.1 h with h | h
    · simp at h
      obtain ⟨rfl, rfl⟩ := h
      cases o <;> simp only at hj <;> simp only [ownNames, List.mem_cons, List.mem_append]
      · exact .inr (.inl hj)
      · simp at hj
      · exact .inr (.inl hj)
    · have := ownNames_in h j hj
      cases o' <;> simp only [ownNames, List.mem_cons, List.mem_append]
      · exact .inr (.inr this)
      · exact .inr this
      · exact .inr (.inr this)

theorem OwnOk.forget {β β' : Names} {E E' : Nat → Prop} {w w' : World} {k : Nat} {o : Own} (h : OwnOk β E w k o) (hl : Lasts E E' w w') (hk : β' k = β k) (hn : ∀ j, j ∈ (match o with | .fix cs => namesL cs | .lit _ _ cs => namesL cs | .row _ _ _ _ => []) → β' j = β j)
    (hb : ∀ b, β.blk k = some b → w'.heap[b]? = w.heap[b]?) : OwnOk β' E' w' k o := by
  cases o with
  | fix cs =>
    obtain ⟨b, arr, e, h1, h2, h3, h4⟩ := h
    exact ⟨b, arr, e, hk.trans h1, (hb b (by simp [Names.blk, h1, blkOf])).trans h2, h3, fun j v x hv hx => (h4 j v x hv hx).lasts hl (fun n hm => hn n (names_mem hx n hm))⟩
  | row e sz n f =>
    obtain ⟨v, xs, h1, h2, h3, h4⟩ := h
    refine ⟨v, xs, hk.trans h1, h2.lasts (fun b hv => hb b (by simp [Names.blk, h1, hv])), h3, fun i j hi hj x hx => ?_⟩
    obtain ⟨u, hu, hr⟩ := h4 i j hi hj x hx
    exact ⟨u, hu, hr.lasts hl⟩
  | lit sz n cs =>
    obtain ⟨b, arr, e, cap, h1, h0, hc, h2, h3, h5, h4⟩ := h
    exact ⟨b, arr, e, cap, hk.trans h1, h0, hc, (hb b (by simp [Names.blk, h1, blkOf]; omega)).trans h2, h3, h5, fun j v x hv hx => (h4 j v x hv hx).lasts hl (fun n hm => hn n (names_mem hx n hm))⟩

/-- **A contract, out of the condition of the body.** -/
theorem spec_of_vc {P : Program} {f : FuncId} {fn : Func} {code : Code} {cc : C} {rs : List RV} {args : List V} {ins outs : List (Nat × Own)} {res : V} {new : List Nat}
    (hf : P.funcs[f]? = some fn) (hok : okF P f = true) (hb : fn.body = some code) (hcc : cCode P fn.ntmps code = some cc) (hrs : cRess P fn.results.toList = some rs) (hlen : args.length ≤ fn.ntmps)
    (hko : ∀ k, k ∈ keysO outs → k ∈ keysO ins ∨ k ∈ new) (hno : ∀ k, k ∈ new → k ∈ keysO outs) (hnd : (keysO outs).Nodup)
    (hnr : ∀ k, k ∈ res.names ++ ownNames outs → k ∈ namesL args ++ ownNames ins ∨ k ∈ new)
    (h : ∀ c : Ctx, c.P = P → c.nt = fn.ntmps → c.fn = namesL args ++ ownNames ins → vcC c cc ⟨initE 0 args, ins, namesL args ++ ownNames ins⟩ (RetK c rs res outs)) : Ctr P f args ins res outs new := by
  refine ⟨hok, hko, hno, fun E0 β w vals hE hsz hv hins hnn => ?_⟩
  let nm0 := namesL args ++ ownNames ins
  let βc : Names := fun k => if k ∈ nm0 then β k else none
  have hβc : ∀ k, k ∈ nm0 → βc k = β k := fun k hk => if_pos hk
  have hkin : ∀ k, k ∈ keysO ins → k ∈ nm0 := fun k hk => List.mem_append_right _ (ownNames_key hk)
  have hblk : ∀ k, k ∈ keysO ins → βc.blk k = β.blk k := fun k hk => by simp only [Names.blk, hβc k (hkin k hk)]
  let c : Ctx := { P := P, E0 := E0, w0 := w, L := ownB β ins, nt := fn.ntmps, fn := nm0, fx := βc, hE := hE, hEL := fun b h1 ⟨k, h2, h3⟩ => (hins.lt k h2 b h3).2 h1 }
  have hEq : Eo E0 βc ins = Eo E0 β ins := by
    funext b
    apply propext
    unfold Eo
    constructor
    · rintro (h1 | ⟨k, h1, h2⟩)
      · exact .inl h1
      · exact .inr ⟨k, h1, by rw [← hblk k h1]; exact h2⟩
    · rintro (h1 | ⟨k, h1, h2⟩)
      · exact .inl h1
      · exact .inr ⟨k, h1, by rw [hblk k h1]; exact h2⟩
  have hl0 : Lasts (Eo E0 β ins) (Eo E0 βc ins) w w := by rw [hEq]; exact Lasts.refl _ _
  have hsz2 : (vals ++ Array.replicate (fn.ntmps - vals.size) undef).size = fn.ntmps := by simp; omega
  have H : Holds c βc ⟨initE 0 args, ins, nm0⟩ { tmps := vals ++ Array.replicate (fn.ntmps - vals.size) undef, defers := [] } w := by
    refine ⟨hsz2, rfl, fun s => ?_, ⟨fun k o hk => ?_, hins.nodup, fun k k' h1 h2 hne b h3 h4 => ?_, fun k hk b hb1 => ?_⟩, fun k hk b hb1 => ?_, fun k hk => hkin k hk, fun k hk => if_neg hk, Keeps.refl _ _, fun k hk => ⟨hk, rfl⟩⟩
    · rw [get_initE, if_pos (Nat.zero_le _), Nat.sub_zero]
      cases ha : args[s]? with
      | none => exact .un _
      | some x =>
        have hsl : s < vals.size := by have := (List.getElem?_eq_some_iff.1 ha).1; omega
        have hvs : vals[s]? = some vals[s] := Array.getElem?_eq_getElem hsl
        have : (vals ++ Array.replicate (fn.ntmps - vals.size) undef).getD s undef = vals[s] := by
          simp only [Array.getD_eq_getD_getElem?, Array.getElem?_append_left hsl, hvs, Option.getD_some]
        simp only
        rw [this]
        exact (hv s _ x hvs ha).lasts hl0 (fun k hk => hβc k (List.mem_append_left _ (names_mem ha k hk)))
    · exact (hins.ok k o hk).forget hl0 (hβc k (hkin k (mem_keys hk))) (fun j hj => hβc j (List.mem_append_right _ (ownNames_in hk j hj))) (fun _ _ => rfl)
    · rw [hblk k h1] at h3
      rw [hblk k' h2] at h4
      exact hins.apart k k' h1 h2 hne b h3 h4
    · rw [hblk k hk] at hb1
      exact hins.lt k hk b hb1
    · rw [hblk k hk] at hb1
      exact .inr ⟨k, hk, hb1⟩
  refine calls_of_wp hf hb (wp_mono (code_ok (c := c) hcc (h c rfl rfl rfl) βc _ w H) ?_)
  rintro e a' w' ⟨ex, he, β1, st1, hk, H1⟩
  have fin : (∃ st2, Wk c st1 st2 ∧ ressS st2 rs ∧ VLe (retV st2 rs) res ∧ OwnLe st2.own outs) → a'.defers = [] ∧ ∃ v, (results fn a'.tmps).run P w' = .ok v w' ∧
      ∃ v_1 β', Ending.returned v = .returned v_1 ∧ β.le β' ∧ (∀ k, k ∉ new → β' k = β k) ∧ RelV β' (Eo E0 β' outs) w' v_1 res ∧ OwnsOk E0 β' w' outs ∧ Keeps (ownB β ins) w w' ∧ (∀ k, k ∈ keysO outs → ∀ b, β'.blk k = some b → w.heap.size ≤ b ∨ ownB β ins b) := by
    rintro ⟨st2, hs2, hrs2, hle2, hout⟩
    obtain ⟨β2, H2⟩ := hs2 β1 a' w' H1
    obtain ⟨v, hrun, hrel⟩ := results_ok H2 hrs hrs2
    obtain ⟨βo, hβo⟩ : ∃ b : Names, ∀ k, b k = if k ∈ new then β2 k else β k := ⟨_, fun _ => rfl⟩
    refine ⟨H2.df, v, hrun, v, βo, rfl, ?_, fun k hk => (hβo k).trans (if_neg hk), ?_⟩
    · intro k u hu
      by_cases hk : k ∈ new
      · rw [hnn k hk] at hu; cases hu
      · exact ((hβo k).trans (if_neg hk)).trans hu
    have hfx : ∀ k, k ∈ nm0 → β2 k = β k := fun k hk => by
      have := (H2.fx k hk).2
      rw [this]
      exact hβc k hk
    have hb' : ∀ k, (k ∈ nm0 ∨ k ∈ new) → βo k = β2 k := fun k hk => by
      by_cases hn : k ∈ new
      · exact (hβo k).trans (if_pos hn)
      · exact ((hβo k).trans (if_neg hn)).trans (hfx k (hk.resolve_right hn)).symm
    have hkey : ∀ k, k ∈ keysO outs → k ∈ keysO st2.own := fun k hk => by
      obtain ⟨o, ho⟩ := keys_mem hk
      obtain ⟨o', h1, _⟩ := OwnLe.get hout k o ho
      exact mem_keys (own?_mem h1)
    have hko2 : ∀ k, k ∈ keysO outs → k ∈ nm0 ∨ k ∈ new := fun k hk => (hko k hk).imp (hkin k) id
    have hblk2 : ∀ k, k ∈ keysO outs → βo.blk k = β2.blk k := fun k hk => by
      simp only [Names.blk]
      rw [hb' k (hko2 k hk)]
    have hlE : Lasts (Eo E0 β2 st2.own) (Eo E0 βo outs) w' w' := by
      intro b _ h1
      refine ⟨?_, rfl⟩
      rintro (h2 | ⟨k, h2, h3⟩)
      · exact h1 (.inl h2)
      · rw [hblk2 k h2] at h3
        exact h1 (.inr ⟨k, hkey k h2, h3⟩)
    refine ⟨(hle2 _ _ _ _ hrel).lasts hlE (fun k hk => hb' k (hnr k (List.mem_append_left _ hk))), ⟨fun k o hk => ?_, hnd, fun k k' h1 h2 hne b h3 h4 => ?_, fun k h1 b h3 => ?_⟩, H2.kp, fun k h1 b h3 => ?_⟩
    · obtain ⟨o', h1, h2⟩ := OwnLe.get hout k o hk
      exact (h2 _ _ _ _ (own_ok H2 h1)).forget hlE (hb' k (hko2 k (mem_keys hk))) (fun j hj => hb' j (hnr j (List.mem_append_right _ (ownNames_in hk j hj)))) (fun _ _ => rfl)
    · rw [hblk2 k h1] at h3
      rw [hblk2 k' h2] at h4
      exact H2.own.apart k k' (hkey k h1) (hkey k' h2) hne b h3 h4
    · rw [hblk2 k h1] at h3
      exact H2.own.lt k (hkey k h1) b h3
    · rw [hblk2 k h1] at h3
      exact H2.fr k (hkey k h1) b h3
  cases e <;> simp at he <;> subst he
  · exact fin hk
  · exact hk.elim
  · exact hk.elim
  · exact fin hk

/-- The same for a function that takes and gives no own blocks. -/
theorem ctr_pure {P : Program} {f : FuncId} {fn : Func} {code : Code} {cc : C} {rs : List RV} {args : List V} {res : V} {nt : Nat}
    (hf : P.funcs[f]? = some fn) (hok : okF P f = true) (hb : fn.body = some code) (hcc : cCode P fn.ntmps code = some cc) (hrs : cRess P fn.results.toList = some rs) (hnt : fn.ntmps = nt) (hlen : args.length ≤ nt)
    (hna : namesL args = []) (hnr : res.names = []) (h : ∀ c : Ctx, c.P = P → c.fn = [] → vcC c cc ⟨initE 0 args, [], []⟩ (RetK c rs res [])) : Ctr P f args [] res [] [] := by
  refine spec_of_vc hf hok hb hcc hrs (hnt ▸ hlen) (by simp [keysO]) (by simp) (by simp [keysO]) (by simp [hnr, ownNames]) ?_
  intro c h1 _ h2
  rw [hna] at h2 ⊢
  exact h c h1 h2

end Go.Bx
