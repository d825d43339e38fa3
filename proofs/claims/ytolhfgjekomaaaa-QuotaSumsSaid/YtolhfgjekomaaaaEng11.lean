/-
  The engine, part 11: stores, make, cuts of slices, structs that are built, values put into interfaces.
-/
import Derived.Test.YtolhfgjekomaaaaEng10
namespace Go.Bx
open Go.RowKit

theorem rel_d {β : Names} {E : Nat → Prop} {w : World} {v : Value} {x : D} (h : RelV β E w v (.d x)) : RelD E w v x := by
  cases h with | d _ _ h => exact h

theorem putV_len : ∀ (l : List V) (n : Nat) (ys : List V), (putV l n ys).length = l.length
  | [], n, ys => by cases n <;> cases ys <;> simp [putV]
  | v :: l, 0, [] => by simp [putV]
  | v :: l, n + 1, [] => by simp [putV]
  | v :: l, 0, y :: ys => by simp [putV, putV_len l 0 ys]
  | v :: l, n + 1, y :: ys => by simp [putV, putV_len l n (y :: ys)]

theorem putV_get : ∀ (l : List V) (n : Nat) (ys : List V) (j : Nat), (putV l n ys)[j]? = if n ≤ j ∧ j < n + ys.length ∧ j < l.length then ys[j - n]? else l[j]?
  | [], n, ys, j => by cases n <;> cases ys <;> simp [putV]
  | v :: l, 0, [], j => by simp [putV]
  | v :: l, n + 1, [], j => by
    simp only [putV, List.length_nil, Nat.add_zero]
    rw [if_neg (by omega)]
  | v :: l, 0, y :: ys, j => by
    cases j with
    | zero => simp [putV]
    | succ j =>
      simp only [putV, List.getElem?_cons_succ, putV_get l 0 ys j, List.length_cons]
      by_cases h : j < ys.length ∧ j < l.length
      · rw [if_pos (by omega), if_pos (by omega)]; simp
      · rw [if_neg (by omega), if_neg (by omega)]
  | v :: l, n + 1, y :: ys, j => by
    cases j with
    | zero => simp [putV]
    | succ j =>
      simp only [putV, List.getElem?_cons_succ, putV_get l n (y :: ys) j, List.length_cons]
      by_cases h : n ≤ j ∧ j < n + (ys.length + 1) ∧ j < l.length
      · rw [if_pos h, if_pos (by omega)]; congr 1; omega
      · rw [if_neg h, if_neg (by omega)]

theorem putD_len : ∀ (l : List D) (n : Nat) (ys : List D), (putD l n ys).length = l.length
  | [], n, ys => by cases n <;> cases ys <;> simp [putD]
  | v :: l, 0, [] => by simp [putD]
  | v :: l, n + 1, [] => by simp [putD]
  | v :: l, 0, y :: ys => by simp [putD, putD_len l 0 ys]
  | v :: l, n + 1, y :: ys => by simp [putD, putD_len l n (y :: ys)]

theorem putD_get : ∀ (l : List D) (n : Nat) (ys : List D) (j : Nat), (putD l n ys)[j]? = if n ≤ j ∧ j < n + ys.length ∧ j < l.length then ys[j - n]? else l[j]?
  | [], n, ys, j => by cases n <;> cases ys <;> simp [putD]
  | v :: l, 0, [], j => by simp [putD]
  | v :: l, n + 1, [], j => by
    simp only [putD, List.length_nil, Nat.add_zero]
    rw [if_neg (by omega)]
  | v :: l, 0, y :: ys, j => by
    cases j with
    | zero => simp [putD]
    | succ j =>
      simp only [putD, List.getElem?_cons_succ, putD_get l 0 ys j, List.length_cons]
      by_cases h : j < ys.length ∧ j < l.length
      · rw [if_pos (by omega), if_pos (by omega)]; simp
      · rw [if_neg (by omega), if_neg (by omega)]
  | v :: l, n + 1, y :: ys, j => by
    cases j with
    | zero => simp [putD]
    | succ j =>
      simp only [putD, List.getElem?_cons_succ, putD_get l n (y :: ys) j, List.length_cons]
      by_cases h : n ≤ j ∧ j < n + (ys.length + 1) ∧ j < l.length
      · rw [if_pos h, if_pos (by omega)]; congr 1; omega
      · rw [if_neg h, if_neg (by omega)]

/-- The cells behind a store, cell by cell. -/
def spliced (cur : Array Value) (o : Nat) (vs : List Value) : Array Value := (cur.toList.take o ++ vs ++ cur.toList.drop (o + vs.length)).toArray

theorem spliced_size {cur : Array Value} {o : Nat} {vs : List Value} (h : o + vs.length ≤ cur.size) : (spliced cur o vs).size = cur.size := by
  simp [spliced]; omega

theorem spliced_get {cur : Array Value} {o : Nat} {vs : List Value} (h : o + vs.length ≤ cur.size) (j : Nat) :
    (spliced cur o vs)[j]? = if o ≤ j ∧ j < o + vs.length then vs[j - o]? else cur[j]? := by
  simp only [spliced, List.getElem?_toArray]
  by_cases h1 : j < o
  · rw [if_neg (by omega), List.append_assoc, List.getElem?_append_left (by simp; omega), List.getElem?_take, if_pos h1]; simp
  · by_cases h2 : j < o + vs.length
    · rw [if_pos (by omega), List.getElem?_append_left (by simp; omega), List.getElem?_append_right (by simp; omega)]
      congr 1; simp; omega
    · rw [if_neg (by omega), List.getElem?_append_right (by simp; omega), List.getElem?_drop]
      simp only [List.length_append, List.length_take, Array.length_toList]
      rw [show o + vs.length + (j - (min o cur.size + vs.length)) = j by omega]
      simp

section
variable {c : Ctx} {β : Names} {st : St} {a : Act} {w : World} {o : Oper} {d : Nat}

theorem run_storeAt {P : Program} {w : World} {t e : TypeId} {sz b off : Nat} (hz : szB P t = some sz) {v : Value} (hv : v.cells.size = sz) {cur : Array Value} (hh : w.heap[b]? = some (.cells cur e (0, 0))) (hlt : off + sz ≤ cur.size) (h1 : ∀ u, u ∈ v.cells.toList → u.oneCell' = true) :
    (Instr.storeAt t (.pointer (some ⟨b, off, none⟩)) v).run P w = .ok () (w.setRow b (spliced cur off v.cells.toList)) := by
  obtain ⟨i, hi, hi2⟩ := Option.map_eq_some_iff.1 hz
  have hst := run_storeCells_at P b off e v.cells.toList 0 cur w hh (by simp; omega) h1
  simp only [Nat.add_zero] at hst
  simp [Instr.storeAt, Instr.sureAddr, storeVar, sizeOf, typeInfo, hi, hi2, hv, hst, spliced]

theorem Runs.upd (H : Holds c β st a w) (hdst : o.dst = none) {k b : Nat} {ow : Own} {sd : Prop} {rd : List Nat} {w' : World} (hkk : k ∈ keysO st.own) (hb : β.blk k = some b)
    (hr : (execOp a.eval o).run c.P w = .ok .skip w') (hk : Keeps (fun x => x = b) w w') (ho : ∀ E', Lasts (Eo c.E0 β st.own) E' w w' → E' = Eo c.E0 β st.own → OwnOk β E' w' k ow) :
    Runs c β (st.app o.dst { side := sd, val := .un, upd := [(k, some ow)], rd := rd }) a o w := by
  refine ⟨undef, w', β, .inr ⟨hr, rfl⟩, Names.le.refl β, ?_⟩
  have := H.updOwn hkk (hk.mono (fun x e => by rw [e, hb])) ho
  rw [hdst]
  simpa [St.app, setE, applyU, newN, H.kn k hkk, Act.put] using this

theorem s_store (H : Holds c β st a w) (hdst : o.dst = none) {sz : Nat} {t : TypeId} {ox oy : Operand} {x y : X} (ho : o.op = .store t ox oy) (hz : szB c.P t = some sz) (hx : cX ox = some x) (hy : cX oy = some y)
    (hs : (opR st true d (.store sz x y)).side) : Runs c β (st.app o.dst (opR st true d (.store sz x y))) a o w := by
  simp only [opR] at hs ⊢
  have hexec : ∀ w', (Instr.storeAt t (a.eval ox) (a.eval oy)).run c.P w = .ok () w' → (execOp a.eval o).run c.P w = .ok .skip w' := fun w' h => by simp [execOp, ho, h]
  split at hs
  · rename_i k off ys h1 h2
    split at hs
    · rename_i cs h3
      obtain ⟨hsx, hsy, rfl, hlt⟩ := hs
      have e1 := evV_ok H hx hsx
      have e2 := evV_ok H hy hsy
      rw [h1] at e1
      obtain ⟨g1, g2, g3⟩ := e2.cells h2
      obtain ⟨b, arr, e, hb, hh, hsz, hr⟩ := own_ok H h3
      generalize a.eval ox = u at *
      cases e1 with
      | own _ _ b' hb' =>
        rw [hb] at hb'
        injection hb' with hb'; injection hb' with hb'; injection hb' with hb'; injection hb' with hb'
        subst hb'
        have hle : off + (a.eval oy).cells.toList.length ≤ arr.size := by simp [g1, hsz]; omega
        have hrun := run_storeAt (P := c.P) (t := t) (off := off) hz g1 hh (by omega) g3
        refine Runs.upd H hdst (b := b) (mem_keys (own?_mem h3)) (by simp [Names.blk, hb, blkOf]) (hexec _ hrun) (keeps_setRow _ _ _ _ rfl) (fun E' hl hE => ?_)
        refine ⟨b, _, e, hb, setRow_heap w b arr _ e _ hh, by rw [spliced_size hle, putV_len, hsz], fun j v x hv hx => ?_⟩
        rw [spliced_get hle] at hv
        rw [putV_get] at hx
        simp only [Array.length_toList, g1] at hv
        by_cases hj : off ≤ j ∧ j < off + ys.length
        · rw [if_pos hj] at hv
          rw [if_pos (by omega)] at hx
          exact (g2 _ v x (by simpa using hv) hx).lasts' hl (Names.le.refl β)
        · rw [if_neg hj] at hv
          rw [if_neg (by omega)] at hx
          exact (hr j v x hv hx).lasts' hl (Names.le.refl β)
    · exact hs.elim
  · rename_i k sz' i off ys h1 h2
    split at hs
    · rename_i e0 sz2 n f ds h3 h4
      obtain ⟨hsx, hsy, rfl, rfl, hin, hlt⟩ := hs
      have e1 := evV_ok H hx hsx
      have e2 := evV_ok H hy hsy
      rw [h1] at e1
      obtain ⟨g1, g2, g3⟩ := e2.cells h2
      obtain ⟨v0, xs, hb, hrow, hfl, hfr⟩ := own_ok H h3
      have hds := toDs_some h4
      have hdl : ds.length = ys.length := by rw [hds]; simp
      generalize a.eval ox = u at *
      cases e1 with
      | optr _ _ _ _ b m cp hb' =>
        rw [hb] at hb'
        injection hb' with hb'
        subst hb'
        obtain ⟨hxl, hrow⟩ := hrow
        rcases hrow with ⟨_, hn0⟩ | ⟨g, cap, cur, hv, hc0, hh, hnc, hcm, hcs, htk⟩
        · omega
        · injection hv with hv1 hv2 hv3
          injection hv1 with hv1; injection hv1 with hv1
          subst hv1; subst hv2; subst hv3
          have hin' : i * sz' + off + ys.length ≤ m * sz' := by
            have : (i + 1) * sz' ≤ m * sz' := Nat.mul_le_mul_right _ hin
            rw [Nat.add_mul] at this; omega
          have hcap : m * sz' ≤ cp * sz' := Nat.mul_le_mul_right _ hnc
          have hle : i * sz' + off + (a.eval oy).cells.toList.length ≤ cur.size := by simp [g1, hcs]; omega
          have hrun := run_storeAt (P := c.P) (t := t) (off := i * sz' + off) hz g1 hh (by omega) g3
          refine Runs.upd H hdst (b := b) (mem_keys (own?_mem h3)) (by simp [Names.blk, hb, blkOf]; omega) (hexec _ hrun) (keeps_setRow _ _ _ _ rfl) (fun E' hl hE => ?_)
          refine ⟨_, (spliced cur (i * sz' + off) (a.eval oy).cells.toList).toList.take (m * sz'), hb, ⟨by rw [List.length_take, Array.length_toList, spliced_size hle, hcs]; omega, .inr ⟨b, cp, _, rfl, hc0, setRow_heap w b cur _ _ _ hh, hnc, hcm, by rw [spliced_size hle, hcs], rfl⟩⟩, fun i' hi' => ?_, fun i' j hi' hj x hx => ?_⟩
          · dsimp only
            split
            · rename_i e; subst e; rw [putD_len]; exact hfl _ hi'
            · exact hfl _ hi'
          · have hidx : i' * sz' + j < m * sz' := by
              have : (i' + 1) * sz' ≤ m * sz' := Nat.mul_le_mul_right _ hi'
              rw [Nat.add_mul] at this; omega
            rw [List.getElem?_take, if_pos hidx]
            have hget := spliced_get hle (i' * sz' + j)
            simp only [Array.length_toList, g1] at hget
            rw [Array.getElem?_toList, hget]
            have hxs : cur[i' * sz' + j]? = xs[i' * sz' + j]? := by rw [← htk, List.getElem?_take, if_pos hidx]; simp
            dsimp only at hx
            split at hx
            · rename_i e
              subst e
              rw [putD_get] at hx
              by_cases hj2 : off ≤ j ∧ j < off + ys.length
              · rw [if_pos (by omega)]
                rw [if_pos (by rw [hdl, hfl _ hi']; omega)] at hx
                have hlt3 : j - off < (a.eval oy).cells.size := by omega
                have hu : (a.eval oy).cells[j - off]? = some (a.eval oy).cells[j - off] := Array.getElem?_eq_getElem hlt3
                have := g2 (j - off) _ (.d x) hu (by rw [hds]; simp [hx])
                refine ⟨(a.eval oy).cells[j - off], ?_, (rel_d this).lasts hl⟩
                rw [show i' * sz' + j - (i' * sz' + off) = j - off by omega, Array.getElem?_toList]; exact hu
              · rw [if_neg (by omega), hxs]
                rw [if_neg (by omega)] at hx
                obtain ⟨u, q1, q2⟩ := hfr i' j hi' hj x hx
                exact ⟨u, q1, q2.lasts hl⟩
            · rename_i e
              have : ¬ (i * sz' + off ≤ i' * sz' + j ∧ i' * sz' + j < i * sz' + off + ys.length) := by
                intro ⟨q1, q2⟩
                rcases Nat.lt_or_gt_of_ne e with q | q
                · have : (i' + 1) * sz' ≤ i * sz' := Nat.mul_le_mul_right _ q
                  rw [Nat.add_mul] at this; omega
                · have : (i + 1) * sz' ≤ i' * sz' := Nat.mul_le_mul_right _ q
                  rw [Nat.add_mul] at this; omega
              rw [if_neg this, hxs]
              obtain ⟨u, q1, q2⟩ := hfr i' j hi' hj x hx
              exact ⟨u, q1, q2.lasts hl⟩
    · rename_i sz2 n cs h3
      obtain ⟨hsx, hsy, rfl, rfl, hin, hlt⟩ := hs
      have e1 := evV_ok H hx hsx
      have e2 := evV_ok H hy hsy
      rw [h1] at e1
      obtain ⟨g1, g2, g3⟩ := e2.cells h2
      obtain ⟨b0, arr, e, cap, hb, hnc, hc0, hh, hsz, hcl, hr⟩ := own_ok H h3
      generalize a.eval ox = u at *
      cases e1 with
      | optr _ _ _ _ b m cp hb' =>
        rw [hb] at hb'
        injection hb' with hb'; injection hb' with hb1 hb2 hb3; injection hb1 with hb1; injection hb1 with hb1
        subst hb1
        have hin' : i * sz' + off + ys.length ≤ n * sz' := by
          have : (i + 1) * sz' ≤ n * sz' := Nat.mul_le_mul_right _ hin
          rw [Nat.add_mul] at this; omega
        have hle : i * sz' + off + (a.eval oy).cells.toList.length ≤ arr.size := by simp [g1, hsz]; omega
        have hrun := run_storeAt (P := c.P) (t := t) (off := i * sz' + off) hz g1 hh (by omega) g3
        refine Runs.upd H hdst (b := b0) (mem_keys (own?_mem h3)) (by simp [Names.blk, hb, blkOf]; omega) (hexec _ hrun) (keeps_setRow _ _ _ _ rfl) (fun E' hl hE => ?_)
        refine ⟨b0, _, e, cap, hb, hnc, hc0, setRow_heap w b0 arr _ e _ hh, by rw [spliced_size hle, putV_len, hsz], by rw [putV_len, hcl], fun j v x hv hx => ?_⟩
        rw [spliced_get hle] at hv
        rw [putV_get] at hx
        simp only [Array.length_toList, g1] at hv
        by_cases hj : i * sz' + off ≤ j ∧ j < i * sz' + off + ys.length
        · rw [if_pos hj] at hv
          rw [if_pos (by omega)] at hx
          exact (g2 _ v x (by simpa using hv) hx).lasts' hl (Names.le.refl β)
        · rw [if_neg hj] at hv
          rw [if_neg (by omega)] at hx
          exact (hr j v x hv hx).lasts' hl (Names.le.refl β)
    · exact hs.elim
  · exact hs.elim

theorem s_mks (H : Holds c β st a w) (hdst : o.dst = some d) (hd : d < c.nt) {t e : TypeId} {sz bytes : Nat} {zd : List D} {ol oc : Operand} {l cc : X} (ho : o.op = .makeSlice t ol oc) (ht : c.P.underlying t = some (.slice e))
    {i : TypeInfo} {z : Value} (hi : c.P.info? e = some i) (hz : i.zero = some z) (hsize : i.size = sz) (hby : i.bytes = bytes) (hzs : z.cells.size = sz) (hzd : cVs z.cells.toList = some (zd.map .d)) (hl : cX ol = some l) (hc : cX oc = some cc)
    (hs : (opR st true d (.mks e sz bytes zd l cc)).side) : Runs c β (st.app o.dst (opR st true d (.mks e sz bytes zd l cc))) a o w := by
  simp only [opR] at hs ⊢
  split at hs
  · rename_i kl m kc n h1 h2
    obtain ⟨hsl, hsc, h0, hmn, hb, h63, hn⟩ := hs
    have e1 := evV_ok H hl hsl
    have e2 := evV_ok H hc hsc
    rw [h1] at e1
    rw [h2] at e2
    have e1 := rel_int e1
    have e2 := rel_int e2
    have hbb : (i.bytes : Int) * n ≤ 281474976710656 := by
      rw [hby]
      have : ((n.toNat * bytes : Nat) : Int) ≤ 281474976710656 := by omega
      rw [Int.natCast_mul, Int.toNat_of_nonneg (by omega), Int.mul_comm] at this
      exact this
    have hr := run_make (P := c.P) w t e i z ht hi hz kl kc m n h0 hmn hbb h63
    refine Runs.mk H hdst hd hn (v := .slice (some ⟨w.heap.size, 0, none⟩) m.toNat n.toNat) (w' := w.alloc (.cells (madeCells z.cells (n.toNat * i.size)) e)) (exec_val (s := Instr.makeSlice t (a.eval ol) (a.eval oc)) (by simp only [execOp, ho]) (by rw [e1, e2]; exact hr)) (keeps_alloc _ _) (fun b hb => ?_) (fun β' E' hβ hk hl => ?_) (fun β' E' hk => .osl _ _ hk rfl)
    · simp only [blkOf] at hb
      split at hb
      · cases hb
      · simp at hb; subst hb; exact ⟨Nat.le_refl _, by simp⟩
    · obtain ⟨q1, q2⟩ := cVs_cells (β := β') (E := E') (w := w.alloc (.cells (madeCells z.cells (n.toNat * i.size)) e)) (arr := z.cells) hzd
      have hzl : zd.length = sz := by rw [← hzs, q1]; simp
      have hcur : ∀ i' j, i' < n.toNat → j < sz → (madeCells z.cells (n.toNat * i.size))[i' * sz + j]? = z.cells[j]? := fun i' j hi' hj => by
        have hlt : i' * sz + j < n.toNat * sz := by
          have : (i' + 1) * sz ≤ n.toNat * sz := Nat.mul_le_mul_right _ hi'
          rw [Nat.add_mul] at this; omega
        have hm : (i' * sz + j) % sz = j := by rw [Nat.mul_comm, Nat.mul_add_mod, Nat.mod_eq_of_lt hj]
        have hjz : j < z.cells.size := by omega
        rw [Array.getElem?_eq_getElem hjz]
        simp [madeCells, hsize, hlt, hzs, hm, getElem!_pos z.cells j hjz]
      by_cases hn0 : n.toNat = 0
      · have hm0 : m.toNat = 0 := by omega
        rw [hn0, hm0] at hk
        refine ⟨_, [], hk, ⟨by simp [hm0], .inl ⟨⟨_, rfl⟩, hm0⟩⟩, fun i' hi' => by omega, fun i' j hi' => by omega⟩
      · refine ⟨_, (madeCells z.cells (n.toNat * i.size)).toList.take (m.toNat * sz), hk, ⟨?_, .inr ⟨w.heap.size, n.toNat, _, rfl, by omega, heap_alloc_new w _, by omega, by unfold maxLen; omega, by rw [size_madeCells, hsize], rfl⟩⟩, fun i' hi' => hzl, fun i' j hi' hj x hx => ?_⟩
        · have : m.toNat * sz ≤ n.toNat * sz := Nat.mul_le_mul_right _ (by omega)
          rw [List.length_take, Array.length_toList, size_madeCells, hsize]; omega
        · have hlt : i' * sz + j < m.toNat * sz := by
            have : (i' + 1) * sz ≤ m.toNat * sz := Nat.mul_le_mul_right _ hi'
            rw [Nat.add_mul] at this; omega
          have hjz : j < z.cells.size := by omega
          refine ⟨z.cells[j], ?_, ?_⟩
          · rw [List.getElem?_take, if_pos hlt, Array.getElem?_toList, hcur i' j (by omega) hj]
            exact Array.getElem?_eq_getElem hjz
          · exact rel_d (q2 j z.cells[j] (.d x) (Array.getElem?_eq_getElem hjz) (by simp [hx]))
  · exact hs.elim

theorem s_slc (H : Holds c β st a w) (hd : ∀ d, o.dst = some d → d < c.nt) {t e : TypeId} {sz : Nat} {ox : Operand} {x : X} {lo hi mx : Option Operand} {xlo xhi xmx : Option X} (ho : o.op = .slice t ox lo hi mx) (ht : c.P.underlying t = some (.slice e)) (hz : szB c.P e = some sz) (hx : cX ox = some x)
    (hlo : cX? lo = some xlo) (hhi : cX? hi = some xhi) (hmx : cX? mx = some xmx)
    (hs : (opR st true d (.slc sz x xlo xhi xmx)).side) : Runs c β (st.app o.dst (opR st true d (.slc sz x xlo xhi xmx))) a o w := by
  have hopt : ∀ (q : Option Operand) (y : X), cX? q = some (some y) → ∃ r, q = some r ∧ cX r = some y := fun q y h => by
    cases q with
    | none => simp [cX?] at h
    | some r => simp [cX?] at h; exact ⟨r, rfl, h⟩
  have hnone : ∀ (q : Option Operand), cX? q = some none → q = none := fun q h => by
    cases q with
    | none => rfl
    | some r => simp [cX?] at h
  obtain ⟨ii, hii, hii2⟩ := Option.map_eq_some_iff.1 hz
  have hszr : (sizeOf e).run c.P w = .ok sz w := by simp [sizeOf, typeInfo, hii, hii2]
  have hexec : ∀ v, (Instr.slice t (a.eval ox) (lo.map a.eval) (hi.map a.eval) (mx.map a.eval)).run c.P w = .ok v w → (execOp a.eval o).run c.P w = .ok (.value v) w := fun v h => by
    simp [execOp, ho, Instr.sliceAt, run_underlying ht, h]
  simp only [opR] at hs ⊢
  split at hs
  · rename_i fl sz' n f kb bb h1 h2 h3 h4
    cases xlo with
    | some _ => simp at h2
    | none =>
    cases xmx with
    | some _ => simp at h4
    | none =>
    obtain ⟨yh, rfl, h3'⟩ := Option.map_eq_some_iff.1 h3
    obtain ⟨hsx, hb0, hbn, rfl, hsh⟩ := hs
    obtain ⟨rh, rfl, hrh⟩ := hopt hi yh hhi
    have := hnone lo hlo
    subst this
    have := hnone mx hmx
    subst this
    have e1 := evV_ok H hx hsx
    rw [h1] at e1
    have e2 := evV_ok H hrh (hsh yh rfl)
    rw [h3'] at e2
    have e2 := rel_int e2
    cases hu : a.eval ox <;> rw [hu] at e1 <;> (try (cases e1 with | d _ _ e1 => cases e1; done))
    rename_i A nn cp
    cases e1 with
    | d _ _ e1 =>
      have hcp : nn = n ∧ n ≤ cp := by cases e1 <;> simp_all
      obtain ⟨rfl, hcp⟩ := hcp
      refine Runs.val H hd (v := .slice (if cp = 0 then A else A.map (·.add (0 * sz))) (bb.toNat - 0) (cp - 0)) (hexec _ ?_) ?_
      · have : bb ≤ (cp : Int) := by omega
        simp [hu, Instr.slice, run_underlying ht, Instr.sliceBounds, Instr.sliceBound, asIntOf, e2, hb0, this, hszr]
      · have hA : (if cp = 0 then A else A.map (·.add (0 * sz))) = A := by
          split
          · rfl
          · cases A <;> simp [Addr.add]
        rw [hA, Nat.sub_zero, Nat.sub_zero]
        refine .d _ _ ?_
        cases e1 with
        | nil _ _ _ _ =>
          have : bb.toNat = 0 := by omega
          rw [this]
          exact .nil _ _ _ _
        | sl _ _ _ _ b off _ g hc hf hl hcell hrel =>
          exact .sl _ _ _ _ b off cp g (by omega) (fun h => by cases h) (fun i hi => hl i (by omega)) (fun i j hi hj => hcell i j (by omega) hj) (fun i j hi hj => hrel i j (by omega) hj)
  · rename_i fl sz' n f kb bb km m h1 h2 h3 h4
    cases xlo with
    | some _ => simp at h2
    | none =>
    obtain ⟨yh, rfl, h3'⟩ := Option.map_eq_some_iff.1 h3
    obtain ⟨ym, rfl, h4'⟩ := Option.map_eq_some_iff.1 h4
    obtain ⟨hsx, hb0, rfl, hbn, rfl, hsh, hsm⟩ := hs
    obtain ⟨rh, rfl, hrh⟩ := hopt hi yh hhi
    obtain ⟨rm, rfl, hrm⟩ := hopt mx ym hmx
    have := hnone lo hlo
    subst this
    have e1 := evV_ok H hx hsx
    rw [h1] at e1
    have e2 := evV_ok H hrh (hsh yh rfl)
    rw [h3'] at e2
    have e2 := rel_int e2
    have e3 := evV_ok H hrm (hsm ym rfl)
    rw [h4'] at e3
    have e3 := rel_int e3
    cases hu : a.eval ox <;> rw [hu] at e1 <;> (try (cases e1 with | d _ _ e1 => cases e1; done))
    rename_i A nn cp
    cases e1 with
    | d _ _ e1 =>
      have hcp : nn = n ∧ n ≤ cp := by cases e1 <;> simp_all
      obtain ⟨rfl, hcp⟩ := hcp
      refine Runs.val H hd (v := .slice (if bb.toNat = 0 then A else A.map (·.add (0 * sz))) (bb.toNat - 0) (bb.toNat - 0)) (hexec _ ?_) ?_
      · have h5 : bb ≤ (cp : Int) := by omega
        have h6 : ((bb.toNat : Nat) : Int) = bb := by omega
        simp [hu, Instr.slice, run_underlying ht, Instr.sliceBounds, Instr.sliceBound, asIntOf, e2, e3, hb0, h5, h6, hszr]
      · have hA : (if bb.toNat = 0 then A else A.map (·.add (0 * sz))) = A := by
          split
          · rfl
          · cases A <;> simp [Addr.add]
        rw [hA, Nat.sub_zero]
        refine .d _ _ ?_
        cases e1 with
        | nil _ _ _ _ =>
          have : bb.toNat = 0 := by omega
          rw [this]
          exact .nil _ _ _ _
        | sl _ _ _ _ b off _ g hc hf hl hcell hrel =>
          exact .sl _ _ _ _ b off _ g (Nat.le_refl _) (fun _ => rfl) (fun i hi => hl i (by omega)) (fun i j hi hj => hcell i j (by omega) hj) (fun i j hi hj => hrel i j (by omega) hj)
  · rename_i fl sz' n f ka aa h1 h2 h3 h4
    cases xhi with
    | some _ => simp at h3
    | none =>
    cases xmx with
    | some _ => simp at h4
    | none =>
    obtain ⟨yl, rfl, h2'⟩ := Option.map_eq_some_iff.1 h2
    obtain ⟨hsx, ha0, han, rfl, hsl⟩ := hs
    obtain ⟨rl, rfl, hrl⟩ := hopt lo yl hlo
    have := hnone hi hhi
    subst this
    have := hnone mx hmx
    subst this
    have e1 := evV_ok H hx hsx
    rw [h1] at e1
    have e2 := evV_ok H hrl (hsl yl rfl)
    rw [h2'] at e2
    have e2 := rel_int e2
    cases hu : a.eval ox <;> rw [hu] at e1 <;> (try (cases e1 with | d _ _ e1 => cases e1; done))
    rename_i A nn cp
    cases e1 with
    | d _ _ e1 =>
      have hcp : nn = n ∧ n ≤ cp := by cases e1 <;> simp_all
      obtain ⟨rfl, hcp⟩ := hcp
      refine Runs.val H hd (v := .slice (if cp = aa.toNat then A else A.map (·.add (aa.toNat * sz))) (nn - aa.toNat) (cp - aa.toNat)) (hexec _ ?_) ?_
      · simp [hu, Instr.slice, run_underlying ht, Instr.sliceBounds, Instr.sliceBound, asIntOf, e2, ha0, han, hszr]
      · refine .d _ _ ?_
        cases e1 with
        | nil _ _ _ _ =>
          have : aa.toNat = 0 := by omega
          rw [this]
          exact .nil _ _ _ _
        | sl _ _ _ _ b off _ g hc hf hl hcell hrel =>
          have hidx : ∀ i j, (aa.toNat + i) * sz + j = aa.toNat * sz + (i * sz + j) := fun i j => by rw [Nat.add_mul]; omega
          by_cases hca : cp = aa.toNat
          · rw [if_pos hca]
            have hn0 : nn - aa.toNat = 0 := by omega
            rw [hn0]
            exact .sl _ _ _ _ b off _ (fun i j => g i j) (by omega) (fun _ => by omega) (fun i hi => by omega) (fun i j hi hj => by omega) (fun i j hi hj => by omega)
          · rw [if_neg hca]
            simp only [Option.map_some, addr_add]
            refine .sl _ _ _ _ b (off + aa.toNat * sz) _ (fun i j => g (aa.toNat + i) j) (by omega) (fun h => by rw [hf h]) (fun i hi => hl _ (by omega)) (fun i j hi hj => ?_) (fun i j hi hj => hrel _ j (by omega) hj)
            have := hcell (aa.toNat + i) j (by omega) hj
            rw [hidx, ← Nat.add_assoc] at this
            exact this
  · exact hs.elim

theorem s_mkifc (H : Holds c β st a w) (hd : ∀ d, o.dst = some d → d < c.nt) {t : TypeId} {ox : Operand} {x : X} (ho : o.op = .makeInterface t ox) (hx : cX ox = some x)
    (hr : ∀ v, (Instr.makeInterface t v).run c.P w = .ok (.iface t v) w)
    (hs : (opR st true d (.mkifc t x)).side) : Runs c β (st.app o.dst (opR st true d (.mkifc t x))) a o w := by
  simp only [opR] at hs ⊢
  have hex : (execOp a.eval o).run c.P w = .ok (.value (.iface t (a.eval ox))) w := by simp [execOp, ho, hr]
  by_cases hc : isCell (evV st x) = true
  · rw [if_pos hc] at hs ⊢
    exact Runs.val H hd hex (.ifc _ _ _ (evV_ok H hx hs))
  · rw [if_neg hc] at hs ⊢
    split at hs
    · rename_i cs h1
      have e1 := evV_ok H hx hs
      rw [h1] at e1
      exact Runs.val H hd hex (.ifc _ _ _ e1)
    · exact hs.elim

end
end Go.Bx
