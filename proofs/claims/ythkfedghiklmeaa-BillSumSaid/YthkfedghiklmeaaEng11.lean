/-
  The engine, part 11: stores, make, cuts of slices, structs that are built, values put into interfaces.
-/
import Derived.Test.YthkfedghiklmeaaEng10
namespace Go.Bx
open Go.RowKit

theorem rel_d {β : Names} {E : Nat → Prop} {w : World} {v : Value} {x : D} (h : RelV β E w v (.d x)) : RelD E w v x := by
  cases h with | d _ _ h => exact h

theorem putV_len : ∀ (l : List V) (n : Nat) (ys : List V), (putV l n ys).length = l.length
  | [], n, ys => by cases n <;> cases ys <;> simp [putV]
  | v :: l, 0, [] => by simp [putV]
  | v :: l, n + 1, [] => by simp [putV]
  | v :: l, 0, y :: ys => by simp [putV, putV_len l 0 ys]
  | v :: l, n + 1, y :: ys => by simp [putV, putV_len l n (y :: ys)]

theorem putV_get : ∀ (l : List V) (n : Nat) (ys : List V) (j : Nat), (putV l n ys)[j]? = if n ≤ j ∧ j < n + ys.length ∧ j < l.length then ys[j - n]? else l[j]?
  | [], n, ys, j => by cases n <;> cases ys <;> simp [putV]
  | v :: l, 0, [], j => by simp [putV]
  | v :: l, n + 1, [], j => by
    simp only [putV, List.length_nil, Nat.add_zero]
    rw [if_neg (by omega)]
  | v :: l, 0, y :: ys, j => by
    cases j with
    | zero => simp [putV]
    | succ j =>
      simp only [putV, List.getElem?_cons_succ, putV_get l 0 ys j, List.length_cons]
      by_cases h : j < ys.length ∧ j < l.length
      · rw [if_pos (by omega), if_pos (by omega)]; simp
      · rw [if_neg (by omega), if_neg (by omega)]
  | v :: l, n + 1, y :: ys, j => by
    cases j with
    | zero => simp [putV]
    | succ j =>
      simp only [putV, List.getElem?_cons_succ, putV_get l n (y :: ys) j, List.length_cons]
      by_cases h : n ≤ j ∧ j < n + (ys.length + 1) ∧ j < l.length
      · rw [if_pos h, if_pos (by omega)]; congr 1; omega
      · rw [if_neg h, if_neg (by omega)]

theorem putD_len : ∀ (l : List D) (n : Nat) (ys : List D), (putD l n ys).length = l.length
  | [], n, ys => by cases n <;> cases ys <;> simp [putD]
  | v :: l, 0, [] => by simp [putD]
  | v :: l, n + 1, [] => by simp [putD]
  | v :: l, 0, y :: ys => by simp [putD, putD_len l 0 ys]
  | v :: l, n + 1, y :: ys => by simp [putD, putD_len l n (y :: ys)]

theorem putD_get : ∀ (l : List D) (n : Nat) (ys : List D) (j : Nat), (putD l n ys)[j]? = if n ≤ j ∧ j < n + ys.length ∧ j < l.length then ys[j - n]? else l[j]?
  | [], n, ys, j => by cases n <;> cases ys <;> simp [putD]
  | v :: l, 0, [], j => by simp [putD]
  | v :: l, n + 1, [], j => by
    simp only [putD, List.length_nil, Nat.add_zero]
    rw [if_neg (by omega)]
  | v :: l, 0, y :: ys, j => by
    cases j with
    | zero => simp [putD]
    | succ j =>
      simp only [putD, List.getElem?_cons_succ, putD_get l 0 ys j, List.length_cons]
      by_cases h : j < ys.length ∧ j < l.length
      · rw [if_pos (by omega), if_pos (by omega)]; simp
      · rw [if_neg (by omega), if_neg (by omega)]
  | v :: l, n + 1, y :: ys, j => by
    cases j with
    | zero => simp [putD]
    | succ j =>
      simp only [putD, List.getElem?_cons_succ, putD_get l n (y :: ys) j, List.length_cons]
      by_cases h : n ≤ j ∧ j < n + (ys.length + 1) ∧ j < l.length
      · rw [if_pos h, if_pos (by omega)]; congr 1; omega
      · rw [if_neg h, if_neg (by omega)]

/-- The cells behind a store, cell by cell. -/
def spliced (cur : Array Value) (o : Nat) (vs : List Value) : Array Value := (cur.toList.take o ++ vs ++ cur.toList.drop (o + vs.length)).toArray

theorem spliced_size {cur : Array Value} {o : Nat} {vs : List Value} (h : o + vs.length ≤ cur.size) : (spliced cur o vs).size = cur.size := by
  simp [spliced]; omega

theorem spliced_get {cur : Array Value} {o : Nat} {vs : List Value} (h : o + vs.length ≤ cur.size) (j : Nat) :
    (spliced cur o vs)[j]? = if o ≤ j ∧ j < o + vs.length then vs[j - o]? else cur[j]? := by
  simp only [spliced, List.getElem?_toArray]
  by_cases h1 : j < o
  · rw [if_neg (by omega), List.append_assoc, List.getElem?_append_left (by simp; omega), List.getElem?_take, if_pos h1]; simp
  · by_cases h2 : j < o + vs.length
    · rw [if_pos (by omega), List.getElem?_append_left (by simp; omega), List.getElem?_append_right (by simp; omega)]
      congr 1; simp; omega
    · rw [if_neg (by omega), List.getElem?_append_right (by simp; omega), List.getElem?_drop]
      simp only [List.length_append, List.length_take, Array.length_toList]
      rw [show o + vs.length + (j - (min o cur.size + vs.length)) = j by omega]
      simp

section
variable {c : Ctx} {β : Names} {st : St} {a : Act} {w : World} {o : Oper} {d : Nat}

theorem run_storeAt {P : Program} {w : World} {t e : TypeId} {sz b off : Nat} (hz : szB P t = some sz) {v : Value} (hv : v.cells.size = sz) {cur : Array Value} (hh : w.heap[b]? = some (.cells cur e (0, 0))) (hlt : off + sz ≤ cur.size) (h1 : ∀ u, u ∈ v.cells.toList → u.oneCell' = true) :
    (Instr.storeAt t (.pointer (some ⟨b, off, none⟩)) v).run P w = .ok () (w.setRow b (spliced cur off v.cells.toList)) := by
  obtain ⟨i, hi, hi2⟩ := Option.map_eq_some_iff.1 hz
  have hst := run_storeCells_at P b off e v.cells.toList 0 cur w hh (by simp; omega) h1
  simp only [Nat.add_zero] at hst
  simp [Instr.storeAt, Instr.sureAddr, storeVar, sizeOf, typeInfo, hi, hi2, hv, hst, spliced]

theorem Runs.upd (H : Holds c β st a w) (hdst : o.dst = none) {k b : Nat} {ow : Own} {sd : Prop} {rd : List Nat} {w' : World} (hkk : k ∈ keysO st.own) (hb : β.blk k = some b)
    (hr : (execOp a.eval o).run c.P w = .ok .skip w') (hk : Keeps (fun x => x = b) w w') (ho : ∀ E', Lasts (Eo c.E0 β st.own) E' w w' → E' = Eo c.E0 β st.own → OwnOk β E' w' k ow) :
    Runs c β (st.app o.dst { side := sd, val := .un, upd := [(k, some ow)], rd := rd }) a o w := by
  refine ⟨undef, w', β, .inr ⟨hr, rfl⟩, Names.le.refl β, ?_⟩
  have := H.updOwn hkk (hk.mono (fun x e => by rw [e, hb])) ho
  rw [hdst]
  simpa [St.app, setE, applyU, newN, H.kn k hkk, Act.put] using this

theorem s_store (H : Holds c β st a w) (hdst : o.dst = none) {sz : Nat} {t : TypeId} {ox oy : Operand} {x y : X} (ho : o.op = .store t ox oy) (hz : szB c.P t = some sz) (hx : cX ox = some x) (hy : cX oy = some y)
    (hs : (opR st true d (.store sz x y)).side) : Runs c β (st.app o.dst (opR st true d (.store sz x y))) a o w := by
  simp only [opR] at hs ⊢
  have hexec : ∀ w', (Instr.storeAt t (a.eval ox) (a.eval oy)).run c.P w = .ok () w' → (execOp a.eval o).run c.P w = .ok .skip w' := fun w' h => by simp [execOp, ho, h]
  split at hs
  · rename_i k off ys h1 h2
    split at hs
    · rename_i cs h3
      obtain ⟨hsx, hsy, rfl, hlt⟩ := hs
      have e1 := evV_ok H hx hsx
      have e2 := evV_ok H hy hsy
      rw [h1] at e1
      obtain ⟨g1, g2, g3⟩ := e2.cells h2
      obtain ⟨b, arr, e, hb, hh, hsz, hr⟩ := own_ok H h3
      generalize a.eval ox = u at *
      cases e1 with
      | own _ _ b' hb' =>
        rw [hb] at hb'
        injection hb' with hb'; injection hb' with hb'; injection hb' with hb'; injection hb' with hb'
        subst hb'
        have hle : off + (a.eval oy).cells.toList.length ≤ arr.size := by simp [g1, hsz]; omega
        have hrun := run_storeAt (P := c.P) (t := t) (off := off) hz g1 hh (by omega) g3
        refine Runs.upd H hdst (b := b) (mem_keys (own?_mem h3)) (by simp [Names.blk, hb, blkOf]) (hexec _ hrun) (keeps_setRow _ _ _ _ rfl) (fun E' hl hE => ?_)
        refine ⟨b, _, e, hb, setRow_heap w b arr _ e _ hh, by rw [spliced_size hle, putV_len, hsz], fun j v x hv hx => ?_⟩
        rw [spliced_get hle] at hv
        rw [putV_get] at hx
        simp only [Array.length_toList, g1] at hv
        by_cases hj : off ≤ j ∧ j < off + ys.length
        · rw [if_pos hj] at hv
          rw [if_pos (by omega)] at hx
          exact (g2 _ v x (by simpa using hv) hx).lasts' hl (Names.le.refl β)
        · rw [if_neg hj] at hv
          rw [if_neg (by omega)] at hx
          exact (hr j v x hv hx).lasts' hl (Names.le.refl β)
    · exact hs.elim
  · rename_i k sz' i off ys h1 h2
    split at hs
    · rename_i e0 sz2 n f ds h3 h4
      obtain ⟨hsx, hsy, rfl, rfl, hin, hlt⟩ := hs
      have e1 := evV_ok H hx hsx
      have e2 := evV_ok H hy hsy
      rw [h1] at e1
      obtain ⟨g1, g2, g3⟩ := e2.cells h2
      obtain ⟨v0, xs, hb, hrow, hfl, hfr⟩ := own_ok H h3
      have hds := toDs_some h4
      have hdl : ds.length = ys.length := by rw [hds]; simp
      generalize a.eval ox = u at *
      cases e1 with
      | optr _ _ _ _ b m cp hb' =>
        rw [hb] at hb'
        injection hb' with hb'
        subst hb'
        obtain ⟨hxl, hrow⟩ := hrow
        rcases hrow with ⟨_, hn0⟩ | ⟨g, cap, cur, hv, hc0, hh, hnc, hcm, hcs, htk⟩
        · omega
        · injection hv with hv1 hv2 hv3
          injection hv1 with hv1; injection hv1 with hv1
          subst hv1; subst hv2; subst hv3
          have hin' : i * sz' + off + ys.length ≤ m * sz' := by
            have : (i + 1) * sz' ≤ m * sz' := Nat.mul_le_mul_right _ hin
            rw [Nat.add_mul] at this; omega
          have hcap : m * sz' ≤ cp * sz' := Nat.mul_le_mul_right _ hnc
          have hle : i * sz' + off + (a.eval oy).cells.toList.length ≤ cur.size := by simp [g1, hcs]; omega
          have hrun := run_storeAt (P := c.P) (t := t) (off := i * sz' + off) hz g1 hh (by omega) g3
          refine Runs.upd H hdst (b := b) (mem_keys (own?_mem h3)) (by simp [Names.blk, hb, blkOf]; omega) (hexec _ hrun) (keeps_setRow _ _ _ _ rfl) (fun E' hl hE => ?_)
          refine ⟨_, (spliced cur (i * sz' + off) (a.eval oy).cells.toList).toList.take (m * sz'), hb, ⟨by rw [List.length_take, Array.length_toList, spliced_size hle, hcs]; omega, .inr ⟨b, cp, _, rfl, hc0, setRow_heap w b cur _ _ _ hh, hnc, hcm, by rw [spliced_size hle, hcs], rfl⟩⟩, fun i' hi' => ?_, fun i' j hi' hj x hx => ?_⟩
          · dsimp only
            split
            · rename_i e; subst e; rw [putD_len]; exact hfl _ hi'
            · exact hfl _ hi'
          · have hidx : i' * sz' + j < m * sz' := by
              have : (i' + 1) * sz' ≤ m * sz' := Nat.mul_le_mul_right _ hi'
              rw [Nat.add_mul] at this; omega
            rw [List.getElem?_take, if_pos hidx]
            have hget := spliced_get hle (i' * sz' + j)
            simp only [Array.length_toList, g1] at hget
            rw [Array.getElem?_toList, hget]
            have hxs : cur[i' * sz' + j]? = xs[i' * sz' + j]? := by rw [← htk, List.getElem?_take, if_pos hidx]; simp
            dsimp only at hx
            split at hx
            · rename_i e
              subst e
              rw [putD_get] at hx
              by_cases hj2 : off ≤ j ∧ j < off + ys.length
              · rw [if_pos (by omega)]
                rw [if_pos (by rw [hdl, hfl _ hi']; omega)] at hx
                have hlt3 : j - off < (a.eval oy).cells.size := by omega
                have hu : (a.eval oy).cells[j - off]? = some (a.eval oy).cells[j - off] := Array.getElem?_eq_getElem hlt3
                have := g2 (j - off) _ (.d x) hu (by rw [hds]; simp [hx])
                refine ⟨(a.eval oy).cells[j - off], ?_, (rel_d this).lasts hl⟩
                rw [show i' * sz' + j - (i' * sz' + off) = j - off by omega, Array.getElem?_toList]; exact hu
              · rw [if_neg (by omega), hxs]
                rw [if_neg (by omega)] at hx
                obtain ⟨u, q1, q2⟩ := hfr i' j hi' hj x hx
                exact ⟨u, q1, q2.lasts hl⟩
            · rename_i e
              have : ¬ (i * sz' + off ≤ i' * sz' + j ∧ i' * sz' + j < i * sz' + off + ys.length) := by
                intro ⟨q1, q2⟩
                rcases Nat.lt_or_gt_of_ne e with q | q
                · have : (i' + 1) * sz' ≤ i * sz' := Nat.mul_le_mul_right _ q
                  rw [Nat.add_mul] at this; omega
                · have : (i + 1) * sz' ≤ i' * sz' := Nat.mul_le_mul_right _ q
                  rw [Nat.add_mul] at this; omega
              rw [if_neg this, hxs]
              obtain ⟨u, q1, q2⟩ := hfr i' j hi' hj x hx
              exact ⟨u, q1, q2.lasts hl⟩
    · rename_i sz2 n cs h3
      obtain ⟨hsx, hsy, rfl, rfl, hin, hlt⟩ := hs
      have e1 := evV_ok H hx hsx
      have e2 := evV_ok H hy hsy
      rw [h1] at e1
      obtain ⟨g1, g2, g3⟩ := e2.cells h2
      obtain ⟨b0, arr, e, cap, hb, hnc, hc0, hh, hsz, hcl, hr⟩ := own_ok H h3
      generalize a.eval ox = u at *
      cases e1 with
      | optr _ _ _ _ b m cp hb' =>
        rw [hb] at hb'
        injection hb' with hb'; injection hb' with hb1 hb2 hb3; injection hb1 with hb1; injection hb1 with hb1
        subst hb1
        have hin' : i * sz' + off + ys.length ≤ n * sz' := by
          have : (i + 1) * sz' ≤ n * sz' := Nat.mul_le_mul_right _ hin
          rw [Nat.add_mul] at this; omega
        have hle : i * sz' + off + (a.eval oy).cells.toList.length ≤ arr.size := by simp [g1, hsz]; omega
        have hrun := run_storeAt (P := c.P) (t := t) (off := i * sz' + off) hz g1 hh (by omega) g3
        refine Runs.upd H hdst (b := b0) (mem_keys (own?_mem h3)) (by simp [Names.blk, hb, blkOf]; omega) (hexec _ hrun) (keeps_setRow _ _ _ _ rfl) (fun E' hl hE => ?_)
        refine ⟨b0, _, e, cap, hb, hnc, hc0, setRow_heap w b0 arr _ e _ hh, by rw [spliced_size hle, putV_len, hsz], by rw [putV_len, hcl], fun j v x hv hx => ?_⟩
        rw [spliced_get hle] at hv
        rw [putV_get] at hx
        simp only [Array.length_toList, g1] at hv
        by_cases hj : i * sz' + off ≤ j ∧ j < i * sz' + off + ys.length
        · rw [if_pos hj] at hv
          rw [if_pos (by omega)] at hx
          exact (g2 _ v x (by simpa using hv) hx).lasts' hl (Names.le.refl β)
        · rw [if_neg hj] at hv
          rw [if_neg (by omega)] at hx
          exact (hr j v x hv hx).lasts' hl (Names.le.refl β)
    · exact hs.elim
  · exact hs.elim

theorem s_mks (H : Holds c β st a w) (hdst : o.dst = some d) (hd : d < c.nt) {t e : TypeId} {sz bytes : Nat} {zd : List D} {ol oc : Operand} {l cc : X} (ho : o.op = .makeSlice t ol oc) (ht : c.P.underlying t = some (.slice e))
    {i : TypeInfo} {z : Value} (hi : c.P.info? e = some i) (hz : i.zero = some z) (hsize : i.size = sz) (hby : i.bytes = bytes) (hzs : z.cells.size = sz) (hzd : cVs z.cells.toList = some (zd.map .d)) (hl : cX ol = some l) (hc : cX oc = some cc)
    (hs : (opR st true d (.mks e sz bytes zd l cc)).side) : Runs c β (st.app o.dst (opR st true d (.mks e sz bytes zd l cc))) a o w := by
  simp only [opR] at hs ⊢
  split at hs
  · rename_i kl m kc n h1 h2
    obtain ⟨hsl, hsc, h0, hmn, hb, h63, hn⟩ := hs
    have e1 := evV_ok H hl hsl
    have e2 := evV_ok H hc hsc
    rw [h1] at e1
    rw [h2] at e2
    have e1 := rel_int e1
    have e2 := rel_int e2
    have hbb : (i.bytes : Int) * n ≤ 281474976710656 := by
      rw [hby]
      have : ((n.toNat * bytes : Nat) : Int) ≤ 281474976710656 := by omega
      rw [Int.natCast_mul, Int.toNat_of_nonneg (by omega), Int.mul_comm] at this
      exact this
    have hr := run_make (P := c.P) w t e i z ht hi hz kl kc m n h0 hmn hbb h63
    refine Runs.mk H hdst hd hn (v := .slice (some ⟨w.heap.size, 0, none⟩) m.toNat n.toNat) (w' := w.alloc (.cells (madeCells z.cells (n.toNat * i.size)) e)) (exec_val (s := Instr.makeSlice t (a.eval ol) (a.eval oc)) (by simp only [execOp, ho]) (by rw [e1, e2]; exact hr)) (keeps_alloc _ _) (fun b hb => ?_) (fun β' E' hβ hk hl => ?_) (fun β' E' hk => .osl _ _ hk rfl)
    · simp only [blkOf] at hb
      split at hb
      · cases hb
      · simp at hb; subst hb; exact ⟨Nat.le_refl _, by simp⟩
    · obtain ⟨q1, q2⟩ := cVs_cells (β := β') (E := E') (w := w.alloc (.cells (madeCells z.cells (n.toNat * i.size)) e)) (arr := z.cells) hzd
      have hzl : zd.length = sz := by rw [← hzs, q1]; simp
      have hcur : ∀ i' j, i' < n.toNat → j < sz → (madeCells z.cells (n.toNat * i.size))[i' * sz + j]? = z.cells[j]? := fun i' j hi' hj => by
        have hlt : i' * sz + j < n.toNat * sz := by
          have : (i' + 1) * sz ≤ n.toNat * sz := Nat.mul_le_mul_right _ hi'
          rw [Nat.add_mul] at this; omega
        have hm : (i' * sz + j) % sz = j := by rw [Nat.mul_comm, Nat.mul_add_mod, Nat.mod_eq_of_lt hj]
        have hjz : j < z.cells.size := by omega
        rw [Array.getElem?_eq_getElem hjz]
        simp [madeCells, hsize, hlt, hzs, hm, getElem!_pos z.cells j hjz]
      by_cases hn0 : n.toNat = 0
      · have hm0 : m.toNat = 0 := by omega
        rw [hn0, hm0] at hk
        refine ⟨_, [], hk, ⟨by simp [hm0], .inl ⟨⟨_, rfl⟩, hm0⟩⟩, fun i' hi' => by omega, fun i' j hi' => by omega⟩
      · refine ⟨_, (madeCells z.cells (n.toNat * i.size)).toList.take (m.toNat * sz), hk, ⟨?_, .inr ⟨w.heap.size, n.toNat, _, rfl, by omega, heap_alloc_new w _, by omega, by unfold maxLen; omega, by rw [size_madeCells, hsize], rfl⟩⟩, fun i' hi' => hzl, fun i' j hi' hj x hx => ?_⟩
        · have : m.toNat * sz ≤ n.toNat * sz := Nat.mul_le_mul_right _ (by omega)
          rw [List.length_take, Array.length_toList, size_madeCells, hsize]; omega
        · have hlt : i' * sz + j < m.toNat * sz := by
            have : (i' + 1) * sz ≤ m.toNat * sz := Nat.mul_le_mul_right _ hi'
            rw [Nat.add_mul] at this; omega
          have hjz : j < z.cells.size := by omega
          refine ⟨z.cells[j], ?_, ?_⟩
          · rw [List.getElem?_take, if_pos hlt, Array.getElem?_toList, hcur i' j (by omega) hj]
            exact Array.getElem?_eq_getElem hjz
          · exact rel_d (q2 j z.cells[j] (.d x) (Array.getElem?_eq_getElem hjz) (by simp [hx]))
  · exact hs.elim

theorem s_slc (H : Holds c β st a w) (hd : ∀ d, o.dst = some d → d < c.nt) {t e : TypeId} {sz : Nat} {ox : Operand} {x : X} {lo hi mx : Option Operand} {xlo xhi xmx : Option X} (ho : o.op = .slice t ox lo hi mx) (ht : c.P.underlying t = some (.slice e)) (hz : szB c.P e = some sz) (hx : cX ox = some x)
    (hlo : cX? lo = some xlo) (hhi : cX? hi = some xhi) (hmx : cX? mx = some xmx)
    (hs : (opR st true d (.slc sz x xlo xhi xmx)).side) : Runs c β (st.app o.dst (opR st true d (.slc sz x xlo xhi xmx))) a o w := by
  have hopt : ∀ (q : Option Operand) (y : X), cX? q = some (some y) → ∃ r, q = some r ∧ cX r = some y := fun q y h => by
    cases q with
    | none => simp [cX?] at h
    | some r => simp [cX?] at h; exact ⟨r, rfl, h⟩
  have hnone : ∀ (q : Option Operand), cX? q = some none → q = none := fun q h => by
    cases q with
    | none => rfl
    | some r => simp [cX?] at h
  obtain ⟨ii, hii, hii2⟩ := Option.map_eq_some_iff.1 hz
  have hszr : (sizeOf e).run c.P w = .ok sz w := by simp [sizeOf, typeInfo, hii, hii2]
  have hexec : ∀ v, (Instr.slice t (a.eval ox) (lo.map a.eval) (hi.map a.eval) (mx.map a.eval)).run c.P w = .ok v w → (execOp a.eval o).run c.P w = .ok (.value v) w := fun v h => by
    simp [execOp, ho, Instr.sliceAt, run_underlying ht, h]
  simp only [opR] at hs ⊢
  split at hs
  · rename_i fl sz' n f kb bb h1 h2 h3 h4
    cases xlo with
    | some _ => simp at h2
    | none =>
    cases xmx with
    | some _ => simp at h4
    | none =>
    obtain ⟨yh, rfl, h3'⟩ := Option.map_eq_some_iff.1 h3
    obtain ⟨hsx, hb0, hbn, rfl, hsh⟩ := hs
    obtain ⟨rh, rfl, hrh⟩ := hopt hi yh hhi
    have := hnone lo hlo
    subst this
    have := hnone mx hmx
    subst this
    have e1 := evV_ok H hx hsx
    rw [h1] at e1
    have e2 := evV_ok H hrh (hsh yh rfl)
    rw [h3'] at e2
    have e2 := rel_int e2
    cases hu : a.eval ox <;> rw [hu] at e1 <;> (try (cases e1 with | d _ _ e1 => cases e1; done))
    rename_i A nn cp
    cases e1 with
    | d _ _ e1 =>
      have hcp : nn = n ∧ n ≤ cp := by cases e1 <;> simp_all
      obtain ⟨rfl, hcp⟩ := hcp
      refine Runs.val H hd (v := .slice (if cp = 0 then A else A.map (·.add (0 * sz))) (bb.toNat - 0) (cp - 0)) (hexec _ ?_) ?_
      · have : bb ≤ (cp : Int) := by omega
        simp [hu, Instr.slice, run_underlying ht, Instr.sliceBounds, Instr.sliceBound, asIntOf, e2, hb0, this, hszr]
      · have hA : (if cp = 0 then A else A.map (·.add (0 * sz))) = A := by
          split
          · rfl
          · cases A <;> simp [Addr.add]
        rw [hA, Nat.sub_zero, Nat.sub_zero]
        refine .d _ _ ?_
        cases e1 with
        | nil _ _ _ _ =>
          have : bb.toNat = 0 := by omega
          rw [this]
          exact .nil _ _ _ _
        | sl _ _ _ _ b off _ g hc hf hl hcell hrel =>
          exact .sl _ _ _ _ b off cp g (by omega) (fun h => by cases h) (fun i hi => hl i (by omega)) (fun i j hi hj => hcell i j (by omega) hj) (fun i j hi hj => hrel i j (by omega) hj)
  · rename_i fl sz' n f kb bb km m h1 h2 h3 h4
    cases xlo with
    | some _ => simp at h2
    | none =>
    obtain ⟨yh, rfl, h3'⟩ := Option.map_eq_some_iff.1 h3
    obtain ⟨ym, rfl, h4'⟩ := Option.map_eq_some_iff.1 h4
    obtain ⟨hsx, hb0, rfl, hbn, rfl, hsh, hsm⟩ := hs
    obtain ⟨rh, rfl, hrh⟩ := hopt hi yh hhi
    obtain ⟨rm, rfl, hrm⟩ := hopt mx ym hmx
    have := hnone lo hlo
    subst this
    have e1 := evV_ok H hx hsx
    rw [h1] at e1
    have e2 := evV_ok H hrh (hsh yh rfl)
    rw [h3'] at e2
    have e2 := rel_int e2
    have e3 := evV_ok H hrm (hsm ym rfl)
    rw [h4'] at e3
    have e3 := rel_int e3
    cases hu : a.eval ox <;> rw [hu] at e1 <;> (try (cases e1 with | d _ _ e1 => cases e1; done))
    rename_i A nn cp
    cases e1 with
    | d _ _ e1 =>
      have hcp : nn = n ∧ n ≤ cp := by cases e1 <;> simp_all
      obtain ⟨rfl, hcp⟩ := hcp
      refine Runs.val H hd (v := .slice (if bb.toNat = 0 then A else A.map (·.add (0 * sz))) (bb.toNat - 0) (bb.toNat - 0)) (hexec _ ?_) ?_
      · have h5 : bb ≤ (cp : Int) := by omega
        have h6 : ((bb.toNat : Nat) : Int) = bb := by omega
        simp [hu, Instr.slice, run_underlying ht, Instr.sliceBounds, Instr.sliceBound, asIntOf, e2, e3, hb0, h5, h6, hszr]
      · have hA : (if bb.toNat = 0 then A else A.map (·.add (0 * sz))) = A := by
          split
          · rfl
          · cases A <;> simp [Addr.add]
        rw [hA, Nat.sub_zero]
        refine .d _ _ ?_
        cases e1 with
        | nil _ _ _ _ =>
          have : bb.toNat = 0 := by omega
          rw [this]
          exact .nil _ _ _ _
        | sl _ _ _ _ b off _ g hc hf hl hcell hrel =>
          exact .sl _ _ _ _ b off _ g (Nat.le_refl _) (fun _ => rfl) (fun i hi => hl i (by omega)) (fun i j hi hj => hcell i j (by omega) hj) (fun i j hi hj => hrel i j (by omega) hj)
  · rename_i fl sz' n f ka aa h1 h2 h3 h4
    cases xhi with
    | some _ => simp at h3
    | none =>
    cases xmx with
    | some _ => simp at h4
    | none =>
    obtain ⟨yl, rfl, h2'⟩ := Option.map_eq_some_iff.1 h2
    obtain ⟨hsx, ha0, han, rfl, hsl⟩ := hs
    obtain ⟨rl, rfl, hrl⟩ := hopt lo yl hlo
    have := hnone hi hhi
    subst this
    have := hnone mx hmx
    subst this
    have e1 := evV_ok H hx hsx
    rw [h1] at e1
    have e2 := evV_ok H hrl (hsl yl rfl)
    rw [h2'] at e2
    have e2 := rel_int e2
    cases hu : a.eval ox <;> rw [hu] at e1 <;> (try (cases e1 with | d _ _ e1 => cases e1; done))
    rename_i A nn cp
    cases e1 with
    | d _ _ e1 =>
      have hcp : nn = n ∧ n ≤ cp := by cases e1 <;> simp_all
      obtain ⟨rfl, hcp⟩ := hcp
      refine Runs.val H hd (v := .slice (if cp = aa.toNat then A else A.map (·.add (aa.toNat * sz))) (nn - aa.toNat) (cp - aa.toNat)) (hexec _ ?_) ?_
      · simp [hu, Instr.slice, run_underlying ht, Instr.sliceBounds, Instr.sliceBound, asIntOf, e2, ha0, han, hszr]
      · refine .d _ _ ?_
        cases e1 with
        | nil _ _ _ _ =>
          have : aa.toNat = 0 := by omega
          rw [this]
          exact .nil _ _ _ _
        | sl _ _ _ _ b off _ g hc hf hl hcell hrel =>
          have hidx : ∀ i j, (aa.toNat + i) * sz + j = aa.toNat * sz + (i * sz + j) := fun i j => by rw [Nat.add_mul]; omega
          by_cases hca : cp = aa.toNat
          · rw [if_pos hca]
            have hn0 : nn - aa.toNat = 0 := by omega
            rw [hn0]
            exact .sl _ _ _ _ b off _ (fun i j => g i j) (by omega) (fun _ => by omega) (fun i hi => by omega) (fun i j hi hj => by omega) (fun i j hi hj => by omega)
          · rw [if_neg hca]
            simp only [Option.map_some, addr_add]
            refine .sl _ _ _ _ b (off + aa.toNat * sz) _ (fun i j => g (aa.toNat + i) j) (by omega) (fun h => by rw [hf h]) (fun i hi => hl _ (by omega)) (fun i j hi hj => ?_) (fun i j hi hj => hrel _ j (by omega) hj)
            have := hcell (aa.toNat + i) j (by omega) hj
            rw [hidx, ← Nat.add_assoc] at this
            exact this
  · rename_i k ka aa h1 h2 h3 h4
    cases xhi with
    | some _ => simp at h3
    | none =>
    cases xmx with
    | some _ => simp at h4
    | none =>
    obtain ⟨yl, rfl, h2'⟩ := Option.map_eq_some_iff.1 h2
    split at hs
    · rename_i e0 sz' n f h5
      obtain ⟨hsx, ha0, han, rfl, hsl⟩ := hs
      obtain ⟨rl, rfl, hrl⟩ := hopt lo yl hlo
      have := hnone hi hhi
      subst this
      have := hnone mx hmx
      subst this
      have e1 := evV_ok H hx hsx
      rw [h1] at e1
      have e2 := evV_ok H hrl (hsl yl rfl)
      rw [h2'] at e2
      have e2 := rel_int e2
      obtain ⟨v, xs, hb, hrow, _, _⟩ := own_ok H h5
      have hu : a.eval ox = v := by
        generalize a.eval ox = u at *
        cases e1 with
        | osl _ _ hb' _ => rw [hb] at hb'; injection hb' with hb'; exact hb'.symm
      rcases hrow.2 with ⟨⟨A, rfl⟩, rfl⟩ | ⟨g, cap, cur, rfl, hc0, hh, hnc, _⟩
      · have ha : aa = 0 := by omega
        subst ha
        refine Runs.val H hd (v := .slice A 0 0) (hexec _ ?_) (.osub0 k sz A hb)
        simp [hu, Instr.slice, run_underlying ht, Instr.sliceBounds, Instr.sliceBound, asIntOf, e2, hszr]
      · refine Runs.val H hd (v := .slice (some (if cap = aa.toNat then ⟨g, 0, none⟩ else ⟨g, aa.toNat * sz, none⟩)) (n - aa.toNat) (cap - aa.toNat)) (hexec _ ?_) (.osub k sz aa.toNat (n - aa.toNat) g n cap _ hb (by omega) (fun hp => by rw [if_neg (by omega)]))
        by_cases hca : cap = aa.toNat
        · simp [hu, Instr.slice, run_underlying ht, Instr.sliceBounds, Instr.sliceBound, asIntOf, e2, ha0, han, hszr, hca]
        · simp [hu, Instr.slice, run_underlying ht, Instr.sliceBounds, Instr.sliceBound, asIntOf, e2, ha0, han, hszr, hca, addr_add]
    · exact hs.elim
  · rename_i k kb bb h1 h2 h3 h4
    cases xlo with
    | some _ => simp at h2
    | none =>
    cases xmx with
    | some _ => simp at h4
    | none =>
    obtain ⟨yh, rfl, h3'⟩ := Option.map_eq_some_iff.1 h3
    split at hs
    · rename_i e0 sz' n f h5
      obtain ⟨hsx, hb0, hbn, rfl, hsh⟩ := hs
      obtain ⟨rh, rfl, hrh⟩ := hopt hi yh hhi
      have := hnone lo hlo
      subst this
      have := hnone mx hmx
      subst this
      have e1 := evV_ok H hx hsx
      rw [h1] at e1
      have e2 := evV_ok H hrh (hsh yh rfl)
      rw [h3'] at e2
      have e2 := rel_int e2
      obtain ⟨v, xs, hb, hrow, _, _⟩ := own_ok H h5
      have hu : a.eval ox = v := by
        generalize a.eval ox = u at *
        cases e1 with
        | osl _ _ hb' _ => rw [hb] at hb'; injection hb' with hb'; exact hb'.symm
      rcases hrow.2 with ⟨⟨A, rfl⟩, rfl⟩ | ⟨g, cap, cur, rfl, hc0, hh, hnc, _⟩
      · have hb' : bb = 0 := by omega
        subst hb'
        refine Runs.val H hd (v := .slice A 0 0) (hexec _ ?_) (.osub0 k sz A hb)
        simp [hu, Instr.slice, run_underlying ht, Instr.sliceBounds, Instr.sliceBound, asIntOf, e2, hszr]
      · refine Runs.val H hd (v := .slice (some ⟨g, 0, none⟩) bb.toNat (cap - 0)) (hexec _ ?_) (.osub k sz 0 bb.toNat g n cap _ hb (by omega) (fun hp => by simp))
        have : bb ≤ (cap : Int) := by omega
        by_cases hca : cap = 0
        · omega
        · simp [hu, Instr.slice, run_underlying ht, Instr.sliceBounds, Instr.sliceBound, asIntOf, e2, hb0, this, hszr, hca, addr_add]
    · exact hs.elim
  · exact hs.elim

theorem s_asl (H : Holds c β st a w) (hd : ∀ d, o.dst = some d → d < c.nt) {t e : TypeId} {sz n : Nat} {ox : Operand} {x : X} (ho : o.op = .slice t ox none none none) (ht : c.P.underlying t = some (.array n e)) (hz : szB c.P e = some sz) (hx : cX ox = some x)
    (hs : (opR st true d (.asl sz n x)).side) : Runs c β (st.app o.dst (opR st true d (.asl sz n x))) a o w := by
  obtain ⟨ii, hii, hii2⟩ := Option.map_eq_some_iff.1 hz
  have hszr : (sizeOf e).run c.P w = .ok sz w := by simp [sizeOf, typeInfo, hii, hii2]
  simp only [opR] at hs ⊢
  split at hs
  · rename_i cs h1
    obtain ⟨hsx, hl⟩ := hs
    have e1 := evV_ok H hx hsx
    rw [h1] at e1
    generalize hu : a.eval ox = u at *
    cases e1 with
    | mem _ b off g hcell hrel =>
      refine Runs.val H hd (v := .slice (some ⟨b, off, none⟩) n n) ?_ (.d _ _ (.sl true sz n _ b off n (fun i j => g (i * sz + j)) (Nat.le_refl _) (fun _ => rfl) (fun i hi => ?_) (fun i j hi hj => hcell _ ?_) (fun i j hi hj x hx => ?_)))
      · by_cases hn : n = 0
        · subst hn
          simp [execOp, ho, hu, Instr.sliceAt, run_underlying ht, Instr.sureAddr, Instr.sliceBounds, hszr]
        · simp [execOp, ho, hu, Instr.sliceAt, run_underlying ht, Instr.sureAddr, Instr.sliceBounds, hszr, addr_add]
      · have : (i + 1) * sz ≤ n * sz := Nat.mul_le_mul_right _ hi
        rw [Nat.add_mul] at this
        simp [litRow]; omega
      · have : (i + 1) * sz ≤ n * sz := Nat.mul_le_mul_right _ hi
        rw [Nat.add_mul] at this
        omega
      · simp only [litRow] at hx
        rw [lit_get _ _ _ _ hj] at hx
        exact hrel _ _ hx
  · exact hs.elim

theorem run_copy_rowz {P : Program} (w : World) (dT sT ty elem : TypeId) (sz g o dLen dCap : Nat) (a : Addr) (sLen sCap : Nat) (cur : Array Value) (t : TypeId) (cs : List Value)
    (hu : P.underlying dT = some (.slice elem)) (hs : szB P elem = some sz)
    (hg : w.heap[g]? = some (.cells cur t (0, 0))) (hn : cs.length = sz * Nat.min sLen dLen)
    (hsrc : ∀ j v, cs[j]? = some v → w.cell? (a.add j) = some v) (hfit : o + cs.length ≤ cur.size) (h1 : ∀ v ∈ cs, v.oneCell' = true) :
    (Builtin.copy_ #[dT, sT] ty #[.slice (some ⟨g, o, none⟩) dLen dCap, .slice (some a) sLen sCap]).run P w =
      .ok (goInt (Nat.min sLen dLen)) (w.setRow g (cur.toList.take o ++ cs ++ cur.toList.drop (o + cs.length)).toArray) := by
  have hl := run_loadCells_list (P := P) w a cs hsrc
  have hst := run_storeCells_at P g o t cs 0 cur w hg (by simpa using hfit) h1
  obtain ⟨i, hq, hi⟩ := Option.map_eq_some_iff.1 hs
  rw [hn, Nat.mul_comm] at hl
  simp [Builtin.copy_, run_underlying hu, Builtin.lenOf, Builtin.firstCells, sizeOf, typeInfo, hq, hi, hl, hst]

/-- A step that yields a value and changes an own block in place. -/
theorem Runs.updv (H : Holds c β st a w) (hd : ∀ d, o.dst = some d → d < c.nt) {k b : Nat} {ow : Own} {sd : Prop} {rd : List Nat} {w' : World} {kd : IntKind} {n : Int} (hkk : k ∈ keysO st.own) (hb : β.blk k = some b)
    (hr : (execOp a.eval o).run c.P w = .ok (.value (.int kd n)) w') (hk : Keeps (fun x => x = b) w w') (ho : ∀ E', Lasts (Eo c.E0 β st.own) E' w w' → E' = Eo c.E0 β st.own → OwnOk β E' w' k ow) :
    Runs c β (st.app o.dst { side := sd, val := .d (.int kd n), upd := [(k, some ow)], rd := rd }) a o w := by
  refine ⟨.int kd n, w', β, .inl hr, Names.le.refl β, ?_⟩
  have h1 := H.updOwn hkk (hk.mono (fun x e => by rw [e, hb])) ho
  cases hdst : o.dst with
  | none => simpa [St.app, setE, applyU, newN, H.kn k hkk, Act.put, hdst] using h1
  | some d =>
    have h2 := h1.setV (hd d hdst) (mk_int kd n)
    simpa [St.app, setE, applyU, newN, H.kn k hkk, Act.put, hdst] using h2

/-- Cells that are written over some of a row's. -/
theorem row_put {E E' : Nat → Prop} {w : World} {k e sz N lo q gb cap : Nat} {f g : Nat → List D} {cur : Array Value} {news xs : List Value}
    (hl : Lasts E E' w (w.setRow gb (spliced cur (lo * sz) news))) (hb : β k = some (.slice (some ⟨gb, 0, none⟩) N cap)) (hc0 : 0 < cap) (hh : w.heap[gb]? = some (.cells cur e (0, 0))) (hnc : N ≤ cap) (hcm : cap ≤ maxLen) (hcs : cur.size = cap * sz)
    (htk : cur.toList.take (N * sz) = xs) (hfl : ∀ i, i < N → (f i).length = sz) (hfr : ∀ i j, i < N → j < sz → ∀ (x : D), (f i)[j]? = some x → ∃ u, xs[i * sz + j]? = some u ∧ RelD E w u x)
    (hq : lo + q ≤ N) (hnl : news.length = q * sz) (hg : ∀ i, i < q → (g i).length = sz) (hgr : ∀ i j, i < q → j < sz → ∀ (x : D), (g i)[j]? = some x → ∃ u, news[i * sz + j]? = some u ∧ RelD E w u x) :
    OwnOk β E' (w.setRow gb (spliced cur (lo * sz) news)) k (.row e sz N (fun i => if lo ≤ i ∧ i < lo + q then g (i - lo) else f i)) := by
  have hqm : lo * sz + q * sz ≤ N * sz := by rw [← Nat.add_mul]; exact Nat.mul_le_mul_right _ hq
  have hcap : N * sz ≤ cap * sz := Nat.mul_le_mul_right _ hnc
  have hle : lo * sz + news.length ≤ cur.size := by omega
  refine ⟨_, (spliced cur (lo * sz) news).toList.take (N * sz), hb, ⟨by rw [List.length_take, Array.length_toList, spliced_size hle, hcs]; omega, .inr ⟨gb, cap, _, rfl, hc0, setRow_heap w gb cur _ _ _ hh, hnc, hcm, by rw [spliced_size hle, hcs], rfl⟩⟩, fun i hi => ?_, fun i j hi hj x hx => ?_⟩
  · dsimp only
    split
    · exact hg _ (by omega)
    · exact hfl _ hi
  · have hidx : i * sz + j < N * sz := by
      have : (i + 1) * sz ≤ N * sz := Nat.mul_le_mul_right _ hi
      rw [Nat.add_mul] at this; omega
    rw [List.getElem?_take, if_pos hidx, Array.getElem?_toList, spliced_get hle, hnl]
    dsimp only at hx
    split at hx
    · rename_i h
      obtain ⟨u, q1, q2⟩ := hgr (i - lo) j (by omega) hj x hx
      have h1 : lo * sz ≤ i * sz := Nat.mul_le_mul_right _ h.1
      have h2 : (i + 1) * sz ≤ (lo + q) * sz := Nat.mul_le_mul_right _ h.2
      rw [Nat.add_mul, Nat.add_mul] at h2
      rw [if_pos (by omega)]
      refine ⟨u, ?_, q2.lasts hl⟩
      rw [← q1, Nat.sub_mul]
      congr 1
      omega
    · rename_i h
      obtain ⟨u, q1, q2⟩ := hfr i j hi hj x hx
      have : ¬ (lo * sz ≤ i * sz + j ∧ i * sz + j < lo * sz + q * sz) := by
        intro ⟨p1, p2⟩
        by_cases hlo : lo ≤ i
        · have hhi : lo + q ≤ i := by omega
          have : (lo + q) * sz ≤ i * sz := Nat.mul_le_mul_right _ hhi
          rw [Nat.add_mul] at this; omega
        · have : (i + 1) * sz ≤ lo * sz := Nat.mul_le_mul_right _ (by omega)
          rw [Nat.add_mul] at this; omega
      rw [if_neg this]
      refine ⟨u, ?_, q2.lasts hl⟩
      rw [← q1, ← htk, List.getElem?_take, if_pos hidx]; simp

theorem take_sub {l : List Value} {n j : Nat} {u : Value} (h : (l.take n)[j]? = some u) : l[j]? = some u := by
  rw [List.getElem?_take] at h
  split at h
  · exact h
  · cases h
theorem run_copy_zero {P : Program} (w : World) (dT sT ty elem : TypeId) (A B : Option Addr) (dLen dCap sLen sCap : Nat) (hu : P.underlying dT = some (.slice elem)) (hs : ∃ sz, szB P elem = some sz) (h0 : Nat.min sLen dLen = 0) :
    (Builtin.copy_ #[dT, sT] ty #[.slice A dLen dCap, .slice B sLen sCap]).run P w = .ok (goInt 0) w := by
  obtain ⟨sz, hs⟩ := hs
  obtain ⟨i, hq, hi⟩ := Option.map_eq_some_iff.1 hs
  cases A <;> cases B <;> simp [Builtin.copy_, run_underlying hu, Builtin.lenOf, Builtin.firstCells, sizeOf, typeInfo, hq, storeCells, loadCells, loadCellsFrom, h0]

theorem s_cpy (H : Holds c β st a w) (hd : ∀ d, o.dst = some d → d < c.nt) {t t' e : TypeId} {sz : Nat} {ox oy : Operand} {x y : X} (ho : o.op = .call { callee := .builtin .copy, args := #[ox, oy], argTypes := #[t, t'] }) (ht : c.P.underlying t = some (.slice e)) (hz : szB c.P e = some sz) (hx : cX ox = some x) (hy : cX oy = some y)
    (hs : (opR st true d (.cpy sz x y)).side) : Runs c β (st.app o.dst (opR st true d (.cpy sz x y))) a o w := by
  have hexec : ∀ n w', (∀ ty, (Builtin.copy_ #[t, t'] ty #[a.eval ox, a.eval oy]).run c.P w = .ok (goInt n) w') → (execOp a.eval o).run c.P w = .ok (.value (.int .i64 n)) w' := fun n w' h => by
    simp [execOp, ho, resolve, invoke, builtin, h, goInt]
  simp only [opR] at hs ⊢
  split at hs
  · rename_i k fl sz2 m g h1 h2
    split at hs
    · rename_i e0 sz1 n f h3
      obtain ⟨hsx, hsy, rfl, hz2⟩ := hs
      have e1 := evV_ok H hx hsx
      have e2 := evV_ok H hy hsy
      rw [h1] at e1
      rw [h2] at e2
      obtain ⟨v, xs, hb, hrow, hfl, hfr⟩ := own_ok H h3
      have hu : a.eval ox = v := by
        generalize a.eval ox = u at *
        cases e1 with
        | osl _ _ hb' _ => rw [hb] at hb'; injection hb' with hb'; exact hb'.symm
      obtain ⟨B, cp, ys, hv2, -, hmc, hyl, hyc, hy1, hgl, hgr⟩ := cells_of_sl (rel_d e2) hz2
      have hkk := mem_keys (own?_mem h3)
      by_cases hq : min m n = 0
      · have hw : (execOp a.eval o).run c.P w = .ok (.value (.int .i64 ((min m n : Nat) : Int))) w := by
          obtain ⟨A, cap, rfl⟩ : ∃ A cap, v = .slice A n cap := by
            rcases hrow.2 with ⟨⟨A, rfl⟩, rfl⟩ | ⟨g, cap, cur, rfl, _⟩
            · exact ⟨A, 0, rfl⟩
            · exact ⟨_, cap, rfl⟩
          refine hexec _ _ fun ty => ?_
          rw [hu, hv2, hq]
          exact run_copy_zero w t t' ty e A B n cap m cp ht ⟨_, hz⟩ hq
        have hef : (fun i => if i < min m n then g i else f i) = f := by funext i; rw [if_neg (by omega)]
        rw [hef]
        have hset : Holds c β ⟨st.env, setO st.own k (.row e0 sz1 n f), st.nm⟩ a w := H.updOwn hkk (Keeps.refl _ _) (fun E' hl hE => hE ▸ ⟨v, xs, hb, hrow, hfl, hfr⟩)
        refine ⟨.int .i64 ((min m n : Nat) : Int), w, β, .inl hw, Names.le.refl β, ?_⟩
        cases hdst : o.dst with
        | none => simpa [St.app, setE, applyU, newN, H.kn k hkk, Act.put, hdst] using hset
        | some d =>
          have h2 := hset.setV (hd d hdst) (mk_int .i64 ((min m n : Nat) : Int))
          simpa [St.app, setE, applyU, newN, H.kn k hkk, Act.put, hdst] using h2
      · rcases hrow.2 with ⟨⟨A, rfl⟩, rfl⟩ | ⟨gb, cap, cur, rfl, hc0, hh, hnc, hcm, hcs, htk⟩
        · omega
        · obtain ⟨ad, rfl, had⟩ := hyc (by omega)
          have hq0 : min m n * sz1 ≤ m * sz1 := Nat.mul_le_mul_right _ (Nat.min_le_left _ _)
          have hq1 : min m n * sz1 ≤ n * sz1 := Nat.mul_le_mul_right _ (Nat.min_le_right _ _)
          have hq2 : n * sz1 ≤ cap * sz1 := Nat.mul_le_mul_right _ hnc
          have hnl : (ys.take (min m n * sz1)).length = min m n * sz1 := by rw [List.length_take]; omega
          have hrun := fun ty => run_copy_rowz (P := c.P) w t t' ty e sz1 gb 0 n cap ad m cp cur e0 (ys.take (min m n * sz1)) ht hz hh (by rw [hnl, Nat.mul_comm]) (fun j u hj => had j u (take_sub hj)) (by omega) (fun u hu => hy1 u (List.mem_of_mem_take hu))
          have e3 : (cur.toList.take 0 ++ ys.take (min m n * sz1) ++ cur.toList.drop (0 + (ys.take (min m n * sz1)).length)).toArray = spliced cur (0 * sz1) (ys.take (min m n * sz1)) := by rw [Nat.zero_mul]; rfl
          rw [e3] at hrun
          refine Runs.updv H hd (b := gb) hkk (by simp [Names.blk, hb, blkOf]; omega) (hexec _ _ fun ty => by rw [hu, hv2]; exact hrun ty) (keeps_setRow _ _ _ _ rfl) (fun E' hl hE => ?_)
          have := row_put (lo := 0) (q := min m n) (g := g) hl hb hc0 hh hnc hcm hcs htk hfl hfr (by omega) hnl (fun i hi => hgl i (by omega)) (fun i j hi hj x hx => by
            obtain ⟨u, q1, q2⟩ := hgr i j (by omega) hj x hx
            refine ⟨u, ?_, q2⟩
            have : (i + 1) * sz1 ≤ min m n * sz1 := Nat.mul_le_mul_right _ hi
            rw [Nat.add_mul] at this
            rw [List.getElem?_take, if_pos (by omega)]; exact q1)
          simpa using this
    · exact hs.elim
  · rename_i k sz1 lo n k2 sz2 lo2 m h1 h2
    split at hs
    · rename_i e0 sz3 N f h3
      obtain ⟨hsx, hsy, rfl, rfl, rfl, rfl⟩ := hs
      have e1 := evV_ok H hx hsx
      have e2 := evV_ok H hy hsy
      rw [h1] at e1
      rw [h2] at e2
      obtain ⟨v, xs, hb, hrow, hfl, hfr⟩ := own_ok H h3
      have hkk := mem_keys (own?_mem h3)
      have form : ∀ {u : Value} {lo n : Nat}, RelV β (Eo c.E0 β st.own) w u (.osub k sz3 lo n) → ∃ A cp, u = .slice A n cp ∧ (0 < n → ∃ b m c, β k = some (.slice (some ⟨b, 0, none⟩) m c) ∧ lo + n ≤ m ∧ A = some ⟨b, lo * sz3, none⟩) := fun h => by
        cases h with
        | osub _ _ _ _ b m c aa hb hn ha => exact ⟨_, _, rfl, fun hp => ⟨b, m, c, hb, hn, by rw [ha hp]⟩⟩
        | osub0 _ _ A hb => exact ⟨A, 0, rfl, fun h => by omega⟩
      obtain ⟨A, cp1, hu1, f1⟩ := form e1
      obtain ⟨B, cp2, hu2, f2⟩ := form e2
      by_cases hq : min m n = 0
      · have hw : (execOp a.eval o).run c.P w = .ok (.value (.int .i64 ((min m n : Nat) : Int))) w := by
          refine hexec _ _ fun ty => ?_
          rw [hu1, hu2, hq]
          exact run_copy_zero w t t' ty e A B n cp1 m cp2 ht ⟨_, hz⟩ hq
        have hef : (fun i => if lo ≤ i ∧ i < lo + min m n then f (lo2 + (i - lo)) else f i) = f := by funext i; rw [if_neg (by omega)]
        rw [hef]
        have hset : Holds c β ⟨st.env, setO st.own k (.row e0 sz3 N f), st.nm⟩ a w := H.updOwn hkk (Keeps.refl _ _) (fun E' hl hE => hE ▸ ⟨v, xs, hb, hrow, hfl, hfr⟩)
        refine ⟨.int .i64 ((min m n : Nat) : Int), w, β, .inl hw, Names.le.refl β, ?_⟩
        cases hdst : o.dst with
        | none => simpa [St.app, setE, applyU, newN, H.kn k hkk, Act.put, hdst] using hset
        | some d =>
          have h2 := hset.setV (hd d hdst) (mk_int .i64 ((min m n : Nat) : Int))
          simpa [St.app, setE, applyU, newN, H.kn k hkk, Act.put, hdst] using h2
      · obtain ⟨b1, m1, c1, hb1, hn1, rfl⟩ := f1 (by omega)
        obtain ⟨b2, m2, c2, hb2, hn2, rfl⟩ := f2 (by omega)
        rcases hrow.2 with ⟨⟨A, rfl⟩, rfl⟩ | ⟨gb, cap, cur, rfl, hc0, hh, hnc, hcm, hcs, htk⟩
        · rw [hb1] at hb
          injection hb with hb
          injection hb with _ q2 _
          exact absurd (show n = 0 from Nat.le_zero.1 (Nat.le_trans (Nat.le_add_left n lo) (q2 ▸ hn1))) (fun h => hq (by rw [h]; exact Nat.min_zero m))
        · rw [hb] at hb1 hb2
          injection hb1 with p1
          injection p1 with p1 p2 p3
          injection p1 with p1
          injection p1 with p1
          subst p1; subst p2; subst p3
          injection hb2 with p1
          injection p1 with p1 p2 p3
          injection p1 with p1
          injection p1 with p1
          subst p1; subst p2; subst p3
          have hq2 : N * sz3 ≤ cap * sz3 := Nat.mul_le_mul_right _ hnc
          have hN1 : lo * sz3 + min m n * sz3 ≤ N * sz3 := by rw [← Nat.add_mul]; exact Nat.mul_le_mul_right _ (by omega)
          have hN2 : lo2 * sz3 + min m n * sz3 ≤ N * sz3 := by rw [← Nat.add_mul]; exact Nat.mul_le_mul_right _ (by omega)
          have hxl : xs.length = N * sz3 := hrow.1
          have hnl : ((xs.drop (lo2 * sz3)).take (min m n * sz3)).length = min m n * sz3 := by rw [List.length_take, List.length_drop]; omega
          have hxc : ∀ j u, xs[j]? = some u → w.cell? ⟨gb, j, none⟩ = some u := fun j u hj => by
            rw [cell_of_row w gb j cur e0 (0, 0) hh]
            rw [← htk, List.getElem?_take] at hj
            split at hj
            · simpa using hj
            · cases hj
          have hx1 : ∀ u, u ∈ xs → u.oneCell' = true := fun u hu => by
            obtain ⟨p, hp, rfl⟩ := List.getElem_of_mem hu
            have hs0 : 0 < sz3 := by
              rcases Nat.eq_zero_or_pos sz3 with h | h
              · subst h; omega
              · exact h
            have hp' : p < N * sz3 := by omega
            have hi : p / sz3 < N := Nat.div_lt_of_lt_mul (by rw [Nat.mul_comm]; exact hp')
            have hj : p % sz3 < sz3 := Nat.mod_lt _ hs0
            have hlen := hfl _ hi
            obtain ⟨u, q1, q2⟩ := hfr _ _ hi hj _ (List.getElem?_eq_getElem (by omega))
            have e : p / sz3 * sz3 + p % sz3 = p := by rw [Nat.mul_comm]; exact Nat.div_add_mod p sz3
            rw [e, List.getElem?_eq_getElem hp] at q1
            injection q1 with q1
            rw [q1]; exact q2.one
          have hrun := fun ty => run_copy_rowz (P := c.P) w t t' ty e sz3 gb (lo * sz3) n cp1 ⟨gb, lo2 * sz3, none⟩ m cp2 cur e0 ((xs.drop (lo2 * sz3)).take (min m n * sz3)) ht hz hh (by rw [hnl, Nat.mul_comm]) (fun j u hj => by
            rw [List.getElem?_take] at hj
            split at hj
            · rw [List.getElem?_drop] at hj
              rw [addr_add]
              exact hxc _ u hj
            · cases hj) (by omega) (fun u hu => hx1 u (List.mem_of_mem_drop (List.mem_of_mem_take hu)))
          refine Runs.updv H hd (b := gb) hkk (by simp [Names.blk, hb, blkOf]; omega) (hexec _ _ fun ty => by rw [hu1, hu2]; exact hrun ty) (keeps_setRow _ _ _ _ rfl) (fun E' hl hE => ?_)
          exact row_put (lo := lo) (q := min m n) (g := fun i => f (lo2 + i)) hl hb hc0 hh hnc hcm hcs htk hfl hfr (by omega) hnl (fun i hi => hfl _ (by omega)) (fun i j hi hj x hx => by
            obtain ⟨u, q1, q2⟩ := hfr (lo2 + i) j (by omega) hj x hx
            refine ⟨u, ?_, q2⟩
            have : (i + 1) * sz3 ≤ min m n * sz3 := Nat.mul_le_mul_right _ hi
            rw [Nat.add_mul] at this
            rw [List.getElem?_take, if_pos (by omega), List.getElem?_drop, ← q1, Nat.add_mul]
            congr 1
            omega)
    · exact hs.elim
  · exact hs.elim

theorem s_mkifc (H : Holds c β st a w) (hd : ∀ d, o.dst = some d → d < c.nt) {t : TypeId} {ox : Operand} {x : X} (ho : o.op = .makeInterface t ox) (hx : cX ox = some x)
    (hr : ∀ v, (Instr.makeInterface t v).run c.P w = .ok (.iface t v) w)
    (hs : (opR st true d (.mkifc t x)).side) : Runs c β (st.app o.dst (opR st true d (.mkifc t x))) a o w := by
  simp only [opR] at hs ⊢
  have hex : (execOp a.eval o).run c.P w = .ok (.value (.iface t (a.eval ox))) w := by simp [execOp, ho, hr]
  by_cases hc : isCell (evV st x) = true
  · rw [if_pos hc] at hs ⊢
    exact Runs.val H hd hex (.ifc _ _ _ (evV_ok H hx hs))
  · rw [if_neg hc] at hs ⊢
    split at hs
    · rename_i cs h1
      have e1 := evV_ok H hx hs
      rw [h1] at e1
      exact Runs.val H hd hex (.ifc _ _ _ e1)
    · exact hs.elim

end
end Go.Bx
