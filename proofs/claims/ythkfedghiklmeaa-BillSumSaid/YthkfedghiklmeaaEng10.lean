/-
  The engine, part 10: append.
-/
import Derived.Test.YthkfedghiklmeaaEng9
namespace Go.Bx
open Go.RowKit

theorem keeps_drew_alloc (L : Nat → Prop) (w : World) (ob : Obj) : Keeps L w (w.drew.alloc ob) :=
  ⟨rfl, rfl, rfl, by simp, fun _ hb _ => heap_alloc_old w.drew ob hb⟩

theorem keeps_setRow (w : World) (g : Nat) (cs : Array Value) (L : Nat → Prop) (hL : L g) : Keeps L w (w.setRow g cs) :=
  ⟨rfl, rfl, rfl, by simp, fun k _ hl => setRow_other w g k cs (fun e => hl (e ▸ hL))⟩

/-- The row behind an append that made a new block. -/
theorem row_grown {w : World} {e : TypeId} {sz : Nat} {z : Value} (hzs : z.cells.size = sz) {n m old : Nat} {xs news : List Value} (hx : xs.length = n * sz) (hl : news.length = m * sz) (hpos : 0 < n + m) (h63 : n + m ≤ maxLen) :
    RowOk (w.drew.alloc (.cells (xs.toArray ++ news.toArray ++ Builtin.zeroCells z.cells (grownCap w (n + m) old e - (n + m))) e)) e sz
      (.slice (some ⟨w.heap.size, 0, none⟩) (n + m) (grownCap w (n + m) old e)) (n + m) (xs ++ news) := by
  have hge := grownCap_ge w (n + m) old e
  have hcm : grownCap w (n + m) old e ≤ maxLen := grownCap_le_maxLen w (n + m) old e h63
  have hlen : (xs ++ news).length = (n + m) * sz := by rw [List.length_append, hx, hl, Nat.add_mul]
  refine ⟨hlen, .inr ⟨w.heap.size, _, _, rfl, by omega, heap_alloc_new w.drew _, hge, hcm, ?_, ?_⟩⟩
  · simp only [Array.size_append, List.size_toArray, size_zeroCells, hzs, hx, hl, ← Nat.add_mul]
    congr 1
    omega
  · simp only [Array.toList_append, List.append_assoc]
    rw [← List.append_assoc, ← hlen]
    exact List.take_left

section
variable {P : Program} {w : World} {t ty e : TypeId} {i : TypeInfo} {z : Value} {sz bytes : Nat}

theorem run_app0 (ht : P.underlying t = some (.slice e)) (hi : P.info? e = some i) {A B : Option Addr} {n cap cp : Nat} (hnc : n ≤ cap) :
    (Builtin.append_ #[t, t] ty #[.slice A n cap, .slice B 0 cp]).run P w = .ok (.slice A n cap) w := by
  cases A <;> cases B <;> simp [Builtin.append_, run_underlying ht, sizeOf, typeInfo, hi, Builtin.lenOf, Builtin.firstCells, hnc, loadCells, loadCellsFrom, storeCells]

theorem run_app (ht : P.underlying t = some (.slice e)) (hi : P.info? e = some i) (hz : i.zero = some z) (hsize : i.size = sz) (hby : i.bytes = bytes) (hzs : z.cells.size = sz)
    {v : Value} {n : Nat} {xs : List Value} (hrow : RowOk w e sz v n xs) {A : Option Addr} {m cp : Nat} {news : List Value} (hl : news.length = m * sz)
    (hnews : 0 < m → ∃ ad, A = some ad ∧ ∀ j u, news[j]? = some u → w.cell? (ad.add j) = some u) (h1 : ∀ u ∈ news, u.oneCell' = true) (h63 : n + m ≤ maxLen) (hbytes : (n + m) * bytes ≤ 140737488355328) :
    ∃ v' w', (Builtin.append_ #[t, t] ty #[v, .slice A m cp]).run P w = .ok v' w' ∧ RowOk w' e sz v' (n + m) (xs ++ news) ∧ Keeps (fun b => blkOf v = some b) w w' ∧
      (∀ b, blkOf v' = some b → blkOf v = some b ∨ (w.heap.size ≤ b ∧ b < w'.heap.size)) ∧ v'.oneCell' = true := by
  have hsmall : n + m ≤ 9223372036854775807 := by simp only [maxLen] at h63; omega
  rcases Nat.eq_zero_or_pos m with rfl | hm
  · have hn0 : news = [] := List.eq_nil_of_length_eq_zero (by simpa using hl)
    subst hn0
    have hv : ∃ B cap, v = .slice B n cap ∧ n ≤ cap := by
      rcases hrow.2 with ⟨⟨B, rfl⟩, rfl⟩ | ⟨g, cap, cur, rfl, _, _, hnc, _⟩
      · exact ⟨B, 0, rfl, Nat.le_refl _⟩
      · exact ⟨_, cap, rfl, hnc⟩
    obtain ⟨B, cap, rfl, hnc⟩ := hv
    exact ⟨_, w, run_app0 ht hi hnc, by simpa using hrow, Keeps.refl _ _, fun b hb => .inl hb, rfl⟩
  · obtain ⟨ad, rfl, hcell⟩ := hnews hm
    rcases hrow.2 with ⟨⟨B, rfl⟩, rfl⟩ | ⟨g, cap, cur, rfl, hc0, hg, hnc, hcm, hcs, htake⟩
    · have hx : xs = [] := List.eq_nil_of_length_eq_zero (by simpa using hrow.1)
      subst hx
      have hgr := row_grown (w := w) (e := e) (old := 0) hzs hrow.1 hl (by omega) h63
      simp only [Nat.zero_add, List.nil_append, Array.empty_append] at hgr
      refine ⟨.slice (some ⟨w.heap.size, 0, none⟩) m (grownCap w m 0 e), _, ?_, by simpa using hgr, keeps_drew_alloc _ _ _, fun b hb => ?_, rfl⟩
      · cases B with
        | none => exact run_append_nil (P := P) w t ty e i z ht hi hz ad m cp news (hsize ▸ hl) hcell hm (by omega) (by rw [hby]; rw [Nat.zero_add] at hbytes; omega)
        | some b0 =>
          have hr := run_append_grow (P := P) w t ty e i z ht hi hz b0 0 0 [] (by simp) (by simp) ad m cp news (hsize ▸ hl) hcell (by omega) (by omega) (growslice_fits (by omega) (by rw [hby]; exact hbytes))
          simpa using hr
      · simp only [blkOf] at hb
        split at hb
        · cases hb
        · simp at hb; subst hb; exact .inr ⟨Nat.le_refl _, by simp⟩
    · by_cases hroom : n + m ≤ cap
      · have hfit : n * i.size + news.length ≤ cur.size := by rw [hl, hcs, hsize, ← Nat.add_mul]; exact Nat.mul_le_mul_right _ hroom
        have hr := run_append_room (P := P) w t ty e i ht hi g n cap cur hg ad m cp news (hsize ▸ hl) hcell h1 hroom hfit
        have hlen : (xs ++ news).length = (n + m) * sz := by rw [List.length_append, hrow.1, hl, Nat.add_mul]
        refine ⟨_, _, hr, ⟨hlen, .inr ⟨g, cap, _, rfl, hc0, setRow_heap w g cur _ e _ hg, hroom, hcm, ?_, ?_⟩⟩, keeps_setRow _ _ _ _ (by simp [blkOf]; omega), fun b hb => .inl hb, rfl⟩
        · rw [hsize] at hfit ⊢
          simp only [List.size_toArray, List.length_append, List.length_take, List.length_drop, Array.length_toList]
          omega
        · rw [hsize, htake, ← hlen]
          exact List.take_left
      · have holds : ∀ j u, xs[j]? = some u → w.cell? ((⟨g, 0, none⟩ : Addr).add j) = some u := fun j u hu => by
          rw [addr_add, Nat.zero_add, cell_of_row w g j cur e (0, 0) hg]
          rw [← htake, List.getElem?_take] at hu
          split at hu
          · simpa using hu
          · cases hu
        have hr := run_append_grow (P := P) w t ty e i z ht hi hz ⟨g, 0, none⟩ n cap xs (hsize ▸ hrow.1) holds ad m cp news (hsize ▸ hl) hcell (by omega) (by omega) (growslice_fits (by omega) (by rw [hby]; exact hbytes))
        refine ⟨_, _, hr, row_grown (w := w) (e := e) (old := cap) hzs hrow.1 hl (by omega) h63, keeps_drew_alloc _ _ _, fun b hb => ?_, rfl⟩
        simp only [blkOf] at hb
        split at hb
        · cases hb
        · simp at hb; subst hb; exact .inr ⟨Nat.le_refl _, by simp⟩

/-- The same onto a slice that has no room beyond its length. -/
theorem run_app_full (ht : P.underlying t = some (.slice e)) (hi : P.info? e = some i) (hz : i.zero = some z) (hsize : i.size = sz) (hby : i.bytes = bytes) (hzs : z.cells.size = sz)
    {b0 : Addr} {n : Nat} {xs : List Value} (hxl : xs.length = n * sz) (hxc : ∀ j u, xs[j]? = some u → w.cell? (b0.add j) = some u) {ad : Addr} {m cp : Nat} {news : List Value} (hl : news.length = m * sz) (hm : 0 < m)
    (hcell : ∀ j u, news[j]? = some u → w.cell? (ad.add j) = some u) (h63 : n + m ≤ maxLen) (hbytes : (n + m) * bytes ≤ 140737488355328) :
    ∃ v' w', (Builtin.append_ #[t, t] ty #[.slice (some b0) n n, .slice (some ad) m cp]).run P w = .ok v' w' ∧ RowOk w' e sz v' (n + m) (xs ++ news) ∧ Keeps (fun _ => False) w w' ∧
      (∀ b, blkOf v' = some b → (w.heap.size ≤ b ∧ b < w'.heap.size)) ∧ v'.oneCell' = true := by
  have hsmall : n + m ≤ 9223372036854775807 := by simp only [maxLen] at h63; omega
  have hr := run_append_grow (P := P) w t ty e i z ht hi hz b0 n n xs (hsize ▸ hxl) hxc ad m cp news (hsize ▸ hl) hcell (by omega) (by omega) (growslice_fits (by omega) (by rw [hby]; exact hbytes))
  refine ⟨_, _, hr, row_grown (w := w) (e := e) (old := n) hzs hxl hl (by omega) h63, keeps_drew_alloc _ _ _, fun b hb => ?_, rfl⟩
  simp only [blkOf] at hb
  split at hb
  · cases hb
  · simp at hb; subst hb; exact ⟨Nat.le_refl _, by simp⟩
end

/-- The cells of a slice of data, in a row. -/
theorem cells_of_sl {E : Nat → Prop} {w : World} {v : Value} {full : Bool} {sz0 sz n : Nat} {f : Nat → List D} (h : RelD E w v (.sl full sz0 n f)) (hsz : 0 < n → sz0 = sz) :
    ∃ (A : Option Addr) (cp : Nat) (xs : List Value), v = .slice A n cp ∧ (full = true → cp = n) ∧ n ≤ cp ∧ xs.length = n * sz ∧ (0 < n → ∃ ad, A = some ad ∧ ∀ j u, xs[j]? = some u → w.cell? (ad.add j) = some u) ∧ (∀ u ∈ xs, u.oneCell' = true) ∧
      (∀ i, i < n → (f i).length = sz) ∧ ∀ i j, i < n → j < sz → ∀ (x : D), (f i)[j]? = some x → ∃ u, xs[i * sz + j]? = some u ∧ RelD E w u x := by
  cases h with
  | nil _ _ _ _ => exact ⟨_, 0, [], rfl, fun _ => rfl, Nat.le_refl _, by simp, fun h => by omega, by simp, fun i hi => by omega, fun i j hi => by omega⟩
  | sl _ _ _ _ b off c g hc hf hl hcell hrel =>
    rcases Nat.eq_zero_or_pos n with rfl | hn
    · exact ⟨_, c, [], rfl, hf, hc, by simp, fun h => by omega, by simp, fun i hi => by omega, fun i j hi => by omega⟩
    · have e := hsz hn
      subst e
      have hdm : ∀ x, x < n * sz0 → x / sz0 < n ∧ x % sz0 < sz0 := fun x hx => by
        have hs : 0 < sz0 := by
          rcases Nat.eq_zero_or_pos sz0 with h | h
          · subst h; simp at hx
          · exact h
        exact ⟨Nat.div_lt_of_lt_mul (by rw [Nat.mul_comm]; exact hx), Nat.mod_lt _ hs⟩
      have hel : ∀ i j, i < n → j < sz0 → ((List.range (n * sz0)).map fun x => g (x / sz0) (x % sz0))[i * sz0 + j]? = some (g i j) := fun i j hi hj => by
        have hlt : i * sz0 + j < n * sz0 := by
          have : (i + 1) * sz0 ≤ n * sz0 := Nat.mul_le_mul_right _ hi
          rw [Nat.add_mul] at this; omega
        have h1 : (i * sz0 + j) / sz0 = i := by rw [Nat.mul_comm, Nat.mul_add_div (by omega), Nat.div_eq_of_lt hj]; omega
        have h2 : (i * sz0 + j) % sz0 = j := by rw [Nat.mul_comm, Nat.mul_add_mod, Nat.mod_eq_of_lt hj]
        simp [hlt, h1, h2]
      refine ⟨_, c, (List.range (n * sz0)).map fun x => g (x / sz0) (x % sz0), rfl, hf, hc, by simp, fun _ => ⟨_, rfl, fun j u hu => ?_⟩, fun u hu => ?_, hl, fun i j hi hj x hx => ⟨g i j, hel i j hi hj, hrel i j hi hj x hx⟩⟩
      · have hj : j < n * sz0 := by simpa using (List.getElem?_eq_some_iff.1 hu).1
        obtain ⟨h1, h2⟩ := hdm j hj
        have := (hcell _ _ h1 h2).2
        rw [addr_add]
        have e : j / sz0 * sz0 + j % sz0 = j := by rw [Nat.mul_comm]; exact Nat.div_add_mod j sz0
        rw [e] at this
        rw [this]
        simp [hj] at hu
        simp [hu]
      · obtain ⟨x, hx, rfl⟩ := List.mem_map.1 hu
        obtain ⟨h1, h2⟩ := hdm x (List.mem_range.1 hx)
        have h3 := hl _ h1
        have h4 : (f (x / sz0))[x % sz0]? = some (f (x / sz0))[x % sz0] := List.getElem?_eq_getElem (by omega)
        exact (hrel _ _ h1 h2 _ h4).one

theorem toDs_some : ∀ {cs : List V} {ds : List D}, toDs cs = some ds → cs = ds.map .d
  | [], ds, h => by simp [toDs] at h; subst h; rfl
  | c :: cs, ds, h => by
    cases c <;> simp [toDs] at h
    rename_i x
    obtain ⟨ds', h1, rfl⟩ := h
    simp [toDs_some h1]

theorem lit_get (ds : List D) (sz i j : Nat) (hj : j < sz) : ((ds.drop (i * sz)).take sz)[j]? = ds[i * sz + j]? := by
  rw [List.getElem?_take, if_pos hj, List.getElem?_drop]

section
variable {c : Ctx} {β : Names} {st : St} {a : Act} {w : World} {o : Oper} {d : Nat}

/-- The cells of a row that is known cell by cell, in a row. -/
theorem cells_of_lit (H : Holds c β st a w) {k sz n : Nat} {cs : List V} {ds : List D} (h : own? st.own k = some (.lit sz n cs)) (hd : toDs cs = some ds) :
    ∃ (A : Option Addr) (cp : Nat) (xs : List Value), β k = some (.slice A n cp) ∧ xs.length = n * sz ∧ (0 < n → ∃ ad, A = some ad ∧ ∀ j u, xs[j]? = some u → w.cell? (ad.add j) = some u) ∧ (∀ u ∈ xs, u.oneCell' = true) ∧
      (∀ i, i < n → ((ds.drop (i * sz)).take sz).length = sz) ∧ ∀ i j, i < n → j < sz → ∀ (x : D), ((ds.drop (i * sz)).take sz)[j]? = some x → ∃ u, xs[i * sz + j]? = some u ∧ RelD (Eo c.E0 β st.own) w u x := by
  obtain ⟨b, arr, e, cap, hb, hnc, hc0, hh, hz, hcl, hr⟩ := own_ok H h
  have hcs := toDs_some hd
  have hdl : ds.length = n * sz := by rw [← hcl, hcs]; simp
  have hrd : ∀ (j : Nat) (u : Value) (x : D), arr[j]? = some u → ds[j]? = some x → RelD (Eo c.E0 β st.own) w u x := fun j u x hu hx => by
    have := hr j u (.d x) hu (by rw [hcs]; simp [hx])
    cases this with | d _ _ h => exact h
  refine ⟨some ⟨b, 0, none⟩, cap, arr.toList, hb, by simp; omega, fun _ => ⟨_, rfl, fun j u hu => ?_⟩, fun u hu => ?_, fun i hi => ?_, fun i j hi hj x hx => ?_⟩
  · rw [addr_add, Nat.zero_add, cell_of_row w b j arr e (0, 0) hh]
    simpa using hu
  · obtain ⟨j, hj, e⟩ := List.getElem_of_mem hu
    have hj' : j < arr.size := by simpa using hj
    have hjd : j < ds.length := by omega
    exact (hrd j u ds[j] (by rw [Array.getElem?_eq_getElem hj']; simpa using e) (List.getElem?_eq_getElem hjd)).one
  · have : (i + 1) * sz ≤ n * sz := Nat.mul_le_mul_right _ hi
    rw [Nat.add_mul] at this
    simp; omega
  · rw [lit_get ds sz i j hj] at hx
    have hlt : i * sz + j < arr.size := by
      have := (List.getElem?_eq_some_iff.1 hx).1
      omega
    exact ⟨arr[i * sz + j], by simp [hlt], hrd _ _ x (Array.getElem?_eq_getElem hlt) hx⟩

/-- The row behind an append. -/
theorem row_cat {β' : Names} {E E' : Nat → Prop} {w w' : World} {e sz n m d : Nat} {f g : Nat → List D} {v' : Value} {xs news : List Value} (hl : Lasts E E' w w') (hk : β' d = some v') (hrow : RowOk w' e sz v' (n + m) (xs ++ news)) (hxl : xs.length = n * sz)
    (hf : ∀ i, i < n → (f i).length = sz) (hfr : ∀ i j, i < n → j < sz → ∀ (x : D), (f i)[j]? = some x → ∃ u, xs[i * sz + j]? = some u ∧ RelD E w u x)
    (hg : ∀ i, i < m → (g i).length = sz) (hgr : ∀ i j, i < m → j < sz → ∀ (x : D), (g i)[j]? = some x → ∃ u, news[i * sz + j]? = some u ∧ RelD E w u x) :
    OwnOk β' E' w' d (.row e sz (n + m) (fun i => if i < n then f i else g (i - n))) := by
  refine ⟨v', _, hk, hrow, fun i hi => ?_, fun i j hi hj x hx => ?_⟩
  · dsimp only
    split
    · exact hf i ‹_›
    · exact hg _ (by omega)
  · dsimp only at hx
    split at hx
    · rename_i hin
      obtain ⟨u, h1, h2⟩ := hfr i j hin hj x hx
      have hlt := (List.getElem?_eq_some_iff.1 h1).1
      exact ⟨u, by rw [List.getElem?_append_left hlt]; exact h1, h2.lasts hl⟩
    · rename_i hin
      obtain ⟨u, h1, h2⟩ := hgr (i - n) j (by omega) hj x hx
      have hge : xs.length ≤ i * sz + j := by
        rw [hxl]
        have : n * sz ≤ i * sz := Nat.mul_le_mul_right _ (by omega)
        omega
      refine ⟨u, ?_, h2.lasts hl⟩
      rw [List.getElem?_append_right hge, hxl]
      have : i * sz + j - n * sz = (i - n) * sz + j := by
        rw [Nat.sub_mul]
        have : n * sz ≤ i * sz := Nat.mul_le_mul_right _ (by omega)
        omega
      rw [this]; exact h1

theorem s_app (H : Holds c β st a w) (hdst : o.dst = some d) (hd : d < c.nt) {t e : TypeId} {sz bytes : Nat} {ox oy : Operand} {x y : X} (ho : o.op = .call { callee := .builtin .append, args := #[ox, oy], argTypes := #[t, t] }) (ht : c.P.underlying t = some (.slice e))
    {i : TypeInfo} {z : Value} (hi : c.P.info? e = some i) (hz : i.zero = some z) (hsize : i.size = sz) (hby : i.bytes = bytes) (hzs : z.cells.size = sz) (hx : cX ox = some x) (hy : cX oy = some y)
    (hs : (opR st true d (.app e sz bytes x y)).side) : Runs c β (st.app o.dst (opR st true d (.app e sz bytes x y))) a o w := by
  have hrun : ∀ v A m cp v' w', a.eval ox = v → a.eval oy = .slice A m cp → (Builtin.append_ #[t, t] o.type #[v, .slice A m cp]).run c.P w = .ok v' w' → (execOp a.eval o).run c.P w = .ok (.value v') w' := fun v A m cp v' w' h1 h2 h3 => by
    simp [execOp, ho, resolve, invoke, builtin, h1, h2, h3]
  -- onto an own row
  have own : ∀ (k n : Nat) (f : Nat → List D) (A : Option Addr) (m cp : Nat) (news : List Value) (g : Nat → List D) (sd : Prop) (rd : List Nat), evV st x = .osl k → evS true st x → own? st.own k = some (.row e sz n f) → a.eval oy = .slice A m cp → d ∉ st.nm → (n + m) * bytes ≤ 140737488355328 → n + m ≤ maxLen →
      news.length = m * sz → (0 < m → ∃ ad, A = some ad ∧ ∀ j u, news[j]? = some u → w.cell? (ad.add j) = some u) → (∀ u ∈ news, u.oneCell' = true) → (∀ i, i < m → (g i).length = sz) →
      (∀ i j, i < m → j < sz → ∀ (x : D), (g i)[j]? = some x → ∃ u, news[i * sz + j]? = some u ∧ RelD (Eo c.E0 β st.own) w u x) →
      Runs c β (st.app o.dst { side := sd, val := .osl d, upd := [(k, none), (d, some (.row e sz (n + m) (fun i => if i < n then f i else g (i - n))))], rd := rd }) a o w := by
    intro k n f A m cp news g sd rd h1 hsx h2 hey hn hb h63 hnl hnc hn1 hgl hgr
    have e1 := evV_ok H hx hsx
    rw [h1] at e1
    obtain ⟨v, xs, hbk, hrow, hfl, hfr⟩ := own_ok H h2
    have hv : a.eval ox = v := by
      generalize a.eval ox = u at *
      cases e1 with
      | osl _ _ hb' _ => rw [hbk] at hb'; injection hb' with hb'; exact hb'.symm
    obtain ⟨v', w', hr, hrow', hk, hblk, hone⟩ := run_app (ty := o.type) (cp := cp) ht hi hz hsize hby hzs hrow hnl hnc hn1 h63 hb
    have hbe : β.blk k = blkOf v := by simp [Names.blk, hbk]
    obtain ⟨β', hβ, hbd, H'⟩ := H.replOwn (w' := w') (k0 := k) (k := d) (val := v') (ow := .row e sz (n + m) (fun i => if i < n then f i else g (i - n))) (mem_keys (own?_mem h2)) hn (by rw [hbe]; exact hk) (fun b hb1 => by rw [hbe]; exact hblk b hb1)
      (fun β' E' _ hbd hl => row_cat hl hbd hrow' hrow.1 hfl hfr hgl hgr)
    refine ⟨v', w', β', .inl (hrun v A m cp v' w' hv hey hr), hβ, ?_⟩
    rw [hdst]
    have := H'.setV hd (.osl d v' hbd hone)
    simpa [St.app, setE, applyU, newN, hn] using this
  -- onto a slice that is full
  have full : ∀ (full : Bool) (sz1 n : Nat) (f : Nat → List D) (A : Option Addr) (m cp : Nat) (news : List Value) (g : Nat → List D) (sd : Prop) (rd : List Nat), evV st x = .d (.sl full sz1 n f) → evS true st x → full = true → (0 < n → sz1 = sz) → a.eval oy = .slice A m cp → d ∉ st.nm → (n = 0 ∨ 0 < m) → (n + m) * bytes ≤ 140737488355328 → n + m ≤ maxLen →
      news.length = m * sz → (0 < m → ∃ ad, A = some ad ∧ ∀ j u, news[j]? = some u → w.cell? (ad.add j) = some u) → (∀ u ∈ news, u.oneCell' = true) → (∀ i, i < m → (g i).length = sz) →
      (∀ i j, i < m → j < sz → ∀ (x : D), (g i)[j]? = some x → ∃ u, news[i * sz + j]? = some u ∧ RelD (Eo c.E0 β st.own) w u x) →
      Runs c β (st.app o.dst { side := sd, val := .osl d, upd := [(d, some (.row e sz (n + m) (fun i => if i < n then f i else g (i - n))))], rd := rd }) a o w := by
    intro full sz1 n f A m cp news g sd rd h1 hsx hfull hsz1 hey hn hnm hb h63 hnl hnc hn1 hgl hgr
    have e1 := evV_ok H hx hsx
    rw [h1] at e1
    generalize a.eval ox = v at *
    cases e1 with
    | d _ _ e1 =>
    obtain ⟨B, c1, xs, rfl, hcf, hnc1, hxl, hxc, hx1, hfl, hfr⟩ := cells_of_sl e1 hsz1
    have := hcf hfull
    subst this
    have key : ∃ v' w', (Builtin.append_ #[t, t] o.type #[.slice B c1 c1, .slice A m cp]).run c.P w = .ok v' w' ∧ RowOk w' e sz v' (c1 + m) (xs ++ news) ∧ Keeps (fun _ => False) w w' ∧
      (∀ b, blkOf v' = some b → (w.heap.size ≤ b ∧ b < w'.heap.size)) ∧ v'.oneCell' = true := by
      rcases Nat.eq_zero_or_pos c1 with h0 | hpos
      · subst h0
        have hx0 : xs = [] := List.eq_nil_of_length_eq_zero (by simpa using hxl)
        subst hx0
        obtain ⟨v', w', hr, hrow', hk, hblk, hone⟩ := run_app (ty := o.type) (cp := cp) (v := .slice B 0 0) (n := 0) (xs := []) ht hi hz hsize hby hzs ⟨by simp, .inl ⟨⟨B, rfl⟩, rfl⟩⟩ hnl hnc hn1 h63 hb
        have hbn : blkOf (.slice B 0 0) = none := by cases B <;> simp [blkOf]
        rw [hbn] at hk hblk
        exact ⟨v', w', hr, hrow', hk.mono (fun b hb => by cases hb), fun b hb => (hblk b hb).resolve_left (by simp), hone⟩
      · have hm : 0 < m := hnm.resolve_left (by omega)
        obtain ⟨b0, rfl, hb0⟩ := hxc hpos
        obtain ⟨ad, rfl, had⟩ := hnc hm
        exact run_app_full (ty := o.type) ht hi hz hsize hby hzs hxl hb0 hnl hm had h63 hb
    obtain ⟨v', w', hr, hrow', hk, hblk, hone⟩ := key
    exact Runs.mk H hdst hd hn (hrun _ A m cp v' w' rfl hey hr) hk (fun b hb1 => hblk b hb1) (fun β' E' _ hbd hl => row_cat hl hbd hrow' hxl hfl hfr hgl hgr) (fun β' E' hbd => .osl d v' hbd hone)
  simp only [opR] at hs ⊢
  split at hs
  · rename_i k fl sz2 m g h1 h2
    split at hs
    · rename_i e' sz1 n f h3
      obtain ⟨hsx, hsy, rfl, rfl, hm2, hb, h63, hn⟩ := hs
      have e2 := evV_ok H hy hsy
      rw [h2] at e2
      generalize a.eval oy = u at *
      cases e2 with
      | d _ _ e2 =>
        obtain ⟨A, cp, news, rfl, _, _, hnl, hnc, hn1, hgl, hgr⟩ := cells_of_sl e2 hm2
        exact own k n f A m cp news g _ _ h1 hsx h3 rfl hn hb h63 hnl hnc hn1 hgl hgr
    · exact hs.elim
  · rename_i fl sz1 n f fl2 sz2 m g h1 h2
    obtain ⟨hsx, hsy, hfull, hsz1, hm2, hnm, hb, h63, hn⟩ := hs
    have e2 := evV_ok H hy hsy
    rw [h2] at e2
    generalize a.eval oy = u at *
    cases e2 with
    | d _ _ e2 =>
      obtain ⟨A, cp, news, rfl, _, _, hnl, hnc, hn1, hgl, hgr⟩ := cells_of_sl e2 hm2
      exact full fl sz1 n f A m cp news g _ _ h1 hsx hfull hsz1 rfl hn hnm hb h63 hnl hnc hn1 hgl hgr
  · rename_i k k2 h1 h2
    split at hs
    · rename_i e' sz1 n f sz2 m cs h3 h4
      split at hs
      · rename_i ds h5
        obtain ⟨hsx, hsy, hkk, rfl, rfl, rfl, hb, h63, hn⟩ := hs
        have e2 := evV_ok H hy hsy
        rw [h2] at e2
        obtain ⟨A, cp, news, hbk, hnl, hnc, hn1, hgl, hgr⟩ := cells_of_lit H h4 h5
        have hv : a.eval oy = .slice A m cp := by
          generalize a.eval oy = u at *
          cases e2 with
          | osl _ _ hb' _ => rw [hbk] at hb'; injection hb' with hb'; exact hb'.symm
        exact own k n f A m cp news (fun i => (ds.drop (i * sz2)).take sz2) _ _ h1 hsx h3 hv hn hb h63 hnl hnc hn1 hgl hgr
      · exact hs.elim
    · exact hs.elim
  · rename_i fl sz1 n f k2 h1 h2
    split at hs
    · rename_i sz2 m cs h4
      split at hs
      · rename_i ds h5
        obtain ⟨hsx, hsy, hfull, hsz1, rfl, hm, hb, h63, hn⟩ := hs
        have e2 := evV_ok H hy hsy
        rw [h2] at e2
        obtain ⟨A, cp, news, hbk, hnl, hnc, hn1, hgl, hgr⟩ := cells_of_lit H h4 h5
        have hv : a.eval oy = .slice A m cp := by
          generalize a.eval oy = u at *
          cases e2 with
          | osl _ _ hb' _ => rw [hbk] at hb'; injection hb' with hb'; exact hb'.symm
        exact full fl sz1 n f A m cp news (fun i => (ds.drop (i * sz2)).take sz2) _ _ h1 hsx hfull hsz1 hv hn (.inr hm) hb h63 hnl hnc hn1 hgl hgr
      · exact hs.elim
    · exact hs.elim
  · exact hs.elim

end
end Go.Bx
