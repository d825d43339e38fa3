/-
  The engine, part E: '==' on structs and arrays whose parts are numbers and booleans.
-/
import Derived.Test.YthkfedghiklmeaaEng6
import Derived.Laws.StructEq
import Derived.ChangeKeysEq
namespace Go.Bx
open Go.RowKit

def catO : List (Option (List (Nat × Option IntKind))) → Option (List (Nat × Option IntKind))
  | [] => some []
  | none :: _ => none
  | some a :: l =>
    match catO l with
    | some b => some (a ++ b)
    | none => none

/-- The numbers and booleans that a type's value holds: where, and of which kind. -/
def leaves (P : Program) : Nat → TypeId → Nat → Option (List (Nat × Option IntKind))
  | 0, _, _ => none
  | d + 1, t, off =>
    match P.underlying t with
    | some (.int k) => if P.cellsOf t = 1 then some [(off, some k)] else none
    | some .bool => if P.cellsOf t = 1 then some [(off, none)] else none
    | some (.struct fs) =>
      if P.stoodInHeld t = false ∧ (fs.toList.all fun f => f.name != "_" && decide (f.offset + P.cellsOf f.type ≤ P.cellsOf t)) = true then catO (fs.toList.map fun f => leaves P d f.type (off + f.offset)) else none
    | some (.array n e) => if n * P.cellsOf e ≤ P.cellsOf t ∧ (P.info? e).isSome = true then catO ((List.range n).map fun i => leaves P d e (off + i * P.cellsOf e)) else none
    | _ => none

def valEq : Value → Value → Bool
  | .int _ a, .int _ b => a == b
  | .bool a, .bool b => a == b
  | _, _ => false

def eqA (lv : List (Nat × Option IntKind)) (A B : Array Value) : Bool := lv.all fun p => valEq (A.getD p.1 undef) (B.getD p.1 undef)

def Fit (lv : List (Nat × Option IntKind)) (A : Array Value) : Prop := ∀ p, p ∈ lv → match p.2 with
  | some k => ∃ n, A[p.1]? = some (.int k n)
  | none => ∃ b, A[p.1]? = some (.bool b)

def View (P : Program) (A : Array Value) (off : Nat) (t : TypeId) (a : Value) : Prop :=
  match P.underlying t with
  | some (.struct _) => a = .agg (A.extract off (off + P.cellsOf t))
  | some (.array _ _) => a = .agg (A.extract off (off + P.cellsOf t))
  | _ => A[off]? = some a

theorem part_ok {P : Program} (w : World) {d : Nat} {e : TypeId} {o off n : Nat} {lv : List (Nat × Option IntKind)} {A : Array Value} (h : leaves P d e (off + o) = some lv) (hf : Fit lv A) (h1 : o + P.cellsOf e ≤ n) (h2 : off + n ≤ A.size) :
    ∃ a, (part e (A.extract off (off + n)) o).run P w = .ok a w ∧ View P A (off + o) e a := by
  cases d with
  | zero => simp [leaves] at h
  | succ d =>
    simp only [leaves] at h
    have hex : (A.extract off (off + n)).extract o (o + P.cellsOf e) = A.extract (off + o) (off + o + P.cellsOf e) := by
      rw [Array.extract_extract]
      congr 1
      omega
    have hone : ∀ v : Value, A[off + o]? = some v → P.cellsOf e = 1 → (A.extract off (off + n))[o]? = some v := fun v hv h3 => by
      rw [Array.getElem?_extract, if_pos (by omega)]
      exact hv
    split at h
    · rename_i k hu
      split at h
      · rename_i h3
        cases h
        obtain ⟨m, hm⟩ := hf _ (List.mem_singleton.2 rfl)
        exact ⟨.int k m, by simp [part, isAgg, run_underlying hu, hone _ hm h3], by simp only [View, hu]; exact hm⟩
      · cases h
    · rename_i hu
      split at h
      · rename_i h3
        cases h
        obtain ⟨m, hm⟩ := hf _ (List.mem_singleton.2 rfl)
        exact ⟨.bool m, by simp [part, isAgg, run_underlying hu, hone _ hm h3], by simp only [View, hu]; exact hm⟩
      · cases h
    · rename_i fs hu
      obtain ⟨i, hi⟩ := info_of_underlying hu
      exact ⟨.agg (A.extract (off + o) (off + o + P.cellsOf e)), by simp only [part, isAgg, Sem.run_bind, run_underlying hu, Result.andThen_ok, run_sizeOf w hi, Sem.run_pure, if_true, hex], by simp only [View, hu]⟩
    · rename_i n' e' hu
      obtain ⟨i, hi⟩ := info_of_underlying hu
      exact ⟨.agg (A.extract (off + o) (off + o + P.cellsOf e)), by simp only [part, isAgg, Sem.run_bind, run_underlying hu, Result.andThen_ok, run_sizeOf w hi, Sem.run_pure, if_true, hex], by simp only [View, hu]⟩
    · cases h

theorem eqA_app (l1 l2 : List (Nat × Option IntKind)) (A B : Array Value) : eqA (l1 ++ l2) A B = (eqA l1 A B && eqA l2 A B) := by simp [eqA]

theorem catO_cons {a : Option (List (Nat × Option IntKind))} {l : List (Option (List (Nat × Option IntKind)))} {r : List (Nat × Option IntKind)} (h : catO (a :: l) = some r) : ∃ x y, a = some x ∧ catO l = some y ∧ r = x ++ y := by
  cases a with
  | none => simp [catO] at h
  | some x =>
    simp only [catO] at h
    split at h
    · rename_i y hy
      exact ⟨x, y, rfl, hy, (Option.some.inj h).symm⟩
    · cases h

def EqAt' (P : Program) (d : Nat) : Prop := ∀ (D : Nat), d ≤ D → ∀ (w : World) (t : TypeId) (off : Nat) (lv : List (Nat × Option IntKind)) (A B : Array Value) (a b : Value),
  leaves P d t off = some lv → Fit lv A → Fit lv B → off + P.cellsOf t ≤ A.size → off + P.cellsOf t ≤ B.size → View P A off t a → View P B off t b → (Op.equalIn D t a b).run P w = .ok (eqA lv A B) w

theorem fields_ok {P : Program} (w : World) {d D : Nat} (IH : EqAt' P d) (hD : d ≤ D) {off n : Nat} {A B : Array Value} (hA : off + n ≤ A.size) (hB : off + n ≤ B.size) : ∀ (fs : List Field) (lv : List (Nat × Option IntKind)),
    (fs.all fun f => f.name != "_" && decide (f.offset + P.cellsOf f.type ≤ n)) = true → catO (fs.map fun f => leaves P d f.type (off + f.offset)) = some lv → Fit lv A → Fit lv B →
    (Op.eqFields D (A.extract off (off + n)) (B.extract off (off + n)) fs).run P w = .ok (eqA lv A B) w
  | [], lv, _, h, _, _ => by
    simp [catO] at h; subst h
    simp [Op.eqFields, eqA]
  | f :: fs, lv, hall, h, fa, fb => by
    rw [List.map_cons] at h
    obtain ⟨x, y, h1, h2, rfl⟩ := catO_cons h
    simp only [List.all_cons, Bool.and_eq_true, bne_iff_ne, ne_eq, decide_eq_true_eq] at hall
    have fa1 : Fit x A := fun p hp => fa p (List.mem_append_left _ hp)
    have fb1 : Fit x B := fun p hp => fb p (List.mem_append_left _ hp)
    obtain ⟨a, ha, va⟩ := part_ok w h1 fa1 hall.1.2 hA
    obtain ⟨b, hb, vb⟩ := part_ok w h1 fb1 hall.1.2 hB
    have hr := IH D hD w f.type _ x A B a b h1 fa1 fb1 (by omega) (by omega) va vb
    have ih := fields_ok w IH hD hA hB fs y hall.2 h2 (fun p hp => fa p (List.mem_append_right _ hp)) (fun p hp => fb p (List.mem_append_right _ hp))
    simp only [Op.eqFields, hall.1.1, ne_eq, not_false_eq_true, if_true, Sem.run_bind, ha, hb, hr, Result.andThen_ok, eqA_app]
    cases eqA x A B
    · simp
    · simpa using ih

theorem items_ok {P : Program} (w : World) {d D : Nat} (IH : EqAt' P d) (hD : d ≤ D) {e : TypeId} {off n : Nat} {A B : Array Value} (hA : off + n ≤ A.size) (hB : off + n ≤ B.size) : ∀ (is : List Nat) (lv : List (Nat × Option IntKind)),
    (∀ i, i ∈ is → i * P.cellsOf e + P.cellsOf e ≤ n) → catO (is.map fun i => leaves P d e (off + i * P.cellsOf e)) = some lv → Fit lv A → Fit lv B →
    (Op.eqItems D e (P.cellsOf e) (A.extract off (off + n)) (B.extract off (off + n)) is).run P w = .ok (eqA lv A B) w
  | [], lv, _, h, _, _ => by
    simp [catO] at h; subst h
    simp [Op.eqItems, eqA]
  | i :: is, lv, hall, h, fa, fb => by
    rw [List.map_cons] at h
    obtain ⟨x, y, h1, h2, rfl⟩ := catO_cons h
    have hi := hall i (by simp)
    have fa1 : Fit x A := fun p hp => fa p (List.mem_append_left _ hp)
    have fb1 : Fit x B := fun p hp => fb p (List.mem_append_left _ hp)
    obtain ⟨a, ha, va⟩ := part_ok w h1 fa1 hi hA
    obtain ⟨b, hb, vb⟩ := part_ok w h1 fb1 hi hB
    have hr := IH D hD w e _ x A B a b h1 fa1 fb1 (by omega) (by omega) va vb
    have ih := items_ok w IH hD hA hB is y (fun j hj => hall j (by simp [hj])) h2 (fun p hp => fa p (List.mem_append_right _ hp)) (fun p hp => fb p (List.mem_append_right _ hp))
    simp only [Op.eqItems, Sem.run_bind, ha, hb, hr, Result.andThen_ok, eqA_app]
    cases eqA x A B
    · simp
    · simpa using ih

theorem run_eqAt {P : Program} : ∀ (d : Nat), EqAt' P d
  | 0 => fun D _ w t off lv A B a b h => by simp [leaves] at h
  | d + 1 => fun D hD w t off lv A B a b h fa fb hA hB va vb => by
    obtain ⟨D, rfl⟩ : ∃ D', D = D' + 1 := ⟨D - 1, by omega⟩
    simp only [leaves] at h
    split at h
    · rename_i k hu
      split at h
      · cases h
        obtain ⟨m, hm⟩ := fa _ (List.mem_singleton.2 rfl)
        obtain ⟨n, hn⟩ := fb _ (List.mem_singleton.2 rfl)
        simp only [View, hu] at va vb
        simp only at hm hn
        rw [hm] at va; rw [hn] at vb
        cases va; cases vb
        rw [run_equalIn_int w D t k k m n hu]
        simp [eqA, hm, hn, valEq]
      · cases h
    · rename_i hu
      split at h
      · cases h
        obtain ⟨m, hm⟩ := fa _ (List.mem_singleton.2 rfl)
        obtain ⟨n, hn⟩ := fb _ (List.mem_singleton.2 rfl)
        simp only [View, hu] at va vb
        simp only at hm hn
        rw [hm] at va; rw [hn] at vb
        cases va; cases vb
        rw [run_equalIn_bool w D t m n hu]
        simp [eqA, hm, hn, valEq]
      · cases h
    · rename_i fs hu
      split at h
      · rename_i hh
        simp only [View, hu] at va vb
        subst va; subst vb
        have hfs : P.fieldsOf t = fs := by simp [Program.fieldsOf, hu]
        rw [run_equalIn_struct w D t _ _ (by rw [hfs]; exact hu) hh.1, hfs]
        exact fields_ok w (run_eqAt d) (by omega) hA hB fs.toList lv hh.2 h fa fb
      · cases h
    · rename_i n e hu
      split at h
      · rename_i hh
        simp only [View, hu] at va vb
        subst va; subst vb
        have hall : ∀ i, i ∈ List.range n → i * P.cellsOf e + P.cellsOf e ≤ P.cellsOf t := fun i hi => by
          have hi := List.mem_range.1 hi
          have : (i + 1) * P.cellsOf e ≤ n * P.cellsOf e := Nat.mul_le_mul_right _ hi
          rw [Nat.add_mul, Nat.one_mul] at this
          exact Nat.le_trans this hh.1
        obtain ⟨i, hi⟩ := Option.isSome_iff_exists.1 hh.2
        rw [run_equalIn_array w D _ _ hu hi]
        exact items_ok w (run_eqAt d) (by omega) hA hB (List.range n) lv hall h fa fb
      · cases h
    · cases h

theorem nth_at {l : List V} {j : Nat} {x : V} (h : nth l j = x) (hx : x ≠ .un) : l[j]? = some x := by
  induction l generalizing j with
  | nil => simp [nth] at h; exact absurd h.symm hx
  | cons v l ih => cases j with
    | zero => simp [nth] at h; simp [h]
    | succ j => simp [nth] at h; simpa using ih h

section
variable {c : Ctx} {β : Names} {st : St} {a : Act} {w : World} {o : Oper} {d : Nat}

theorem eq_cells {E : Nat → Prop} {A B : Array Value} {xs ys : List V} (ha : A.size = xs.length) (hb : B.size = ys.length) (ra : ∀ (j : Nat) (v : Value) (x : V), A[j]? = some v → xs[j]? = some x → RelV β E w v x) (rb : ∀ (j : Nat) (v : Value) (x : V), B[j]? = some v → ys[j]? = some x → RelV β E w v x) :
    ∀ (lv : List (Nat × Option IntKind)), eqS lv xs ys → Fit lv A ∧ Fit lv B ∧ eqA lv A B = eqB lv xs ys
  | [], _ => ⟨fun p hp => by simp at hp, fun p hp => by simp at hp, by simp [eqA, eqB]⟩
  | (o, some k) :: l, h => by
    simp only [eqS] at h
    split at h
    · rename_i k1 m k2 n hx hy
      obtain ⟨e1, e2, h⟩ := h
      cases e1
      cases e2
      obtain ⟨f1, f2, f3⟩ := eq_cells ha hb ra rb l h
      have hx' := nth_at hx (by simp)
      have hy' := nth_at hy (by simp)
      have l1 : o < A.size := by have := (List.getElem?_eq_some_iff.1 hx').1; omega
      have l2 : o < B.size := by have := (List.getElem?_eq_some_iff.1 hy').1; omega
      have g1 := rel_int (ra o _ _ (Array.getElem?_eq_getElem l1) hx')
      have g2 := rel_int (rb o _ _ (Array.getElem?_eq_getElem l2) hy')
      refine ⟨fun p hp => ?_, fun p hp => ?_, ?_⟩
      · rcases List.mem_cons.1 hp with rfl | hp
        · exact ⟨m, by simp only; rw [Array.getElem?_eq_getElem l1, g1]⟩
        · exact f1 p hp
      · rcases List.mem_cons.1 hp with rfl | hp
        · exact ⟨n, by simp only; rw [Array.getElem?_eq_getElem l2, g2]⟩
        · exact f2 p hp
      · simp only [eqB, hx, hy, ← f3, eqA, List.all_cons, Array.getD_eq_getD_getElem?, Array.getElem?_eq_getElem l1, Array.getElem?_eq_getElem l2, g1, g2, Option.getD_some, valEq]
    · exact h.elim
  | (o, none) :: l, h => by
    simp only [eqS] at h
    split at h
    · rename_i m n hx hy
      obtain ⟨f1, f2, f3⟩ := eq_cells ha hb ra rb l h
      have hx' := nth_at hx (by simp)
      have hy' := nth_at hy (by simp)
      have l1 : o < A.size := by have := (List.getElem?_eq_some_iff.1 hx').1; omega
      have l2 : o < B.size := by have := (List.getElem?_eq_some_iff.1 hy').1; omega
      have g1 := rel_bool (ra o _ _ (Array.getElem?_eq_getElem l1) hx')
      have g2 := rel_bool (rb o _ _ (Array.getElem?_eq_getElem l2) hy')
      refine ⟨fun p hp => ?_, fun p hp => ?_, ?_⟩
      · rcases List.mem_cons.1 hp with rfl | hp
        · exact ⟨m, by simp only; rw [Array.getElem?_eq_getElem l1, g1]⟩
        · exact f1 p hp
      · rcases List.mem_cons.1 hp with rfl | hp
        · exact ⟨n, by simp only; rw [Array.getElem?_eq_getElem l2, g2]⟩
        · exact f2 p hp
      · simp only [eqB, hx, hy, ← f3, eqA, List.all_cons, Array.getD_eq_getD_getElem?, Array.getElem?_eq_getElem l1, Array.getElem?_eq_getElem l2, g1, g2, Option.getD_some, valEq]
    · exact h.elim

theorem s_eqa (H : Holds c β st a w) (hd : ∀ d, o.dst = some d → d < c.nt) {neg : Bool} {t t' : TypeId} {ox oy : Operand} {x y : X} {lv : List (Nat × Option IntKind)} (ho : o.op = .binOp (if neg then .neq else .eql) t ox oy t') (hag : aggB c.P t = some true) (hg : c.P.eqGuardType c.P.depth t = false)
    (hlv : leaves c.P 100 t 0 = some lv) (hx : cX ox = some x) (hy : cX oy = some y)
    (hs : (opR st true d (.eqa neg (c.P.cellsOf t) lv x y)).side) : Runs c β (st.app o.dst (opR st true d (.eqa neg (c.P.cellsOf t) lv x y))) a o w := by
  simp only [opR] at hs ⊢
  split at hs
  · rename_i xs ys h1 h2
    obtain ⟨hsx, hsy, hl1, hl2, hs⟩ := hs
    have e1 := evV_ok H hx hsx
    have e2 := evV_ok H hy hsy
    rw [h1] at e1
    rw [h2] at e2
    generalize hu : a.eval ox = u at *
    generalize hv : a.eval oy = v at *
    cases e1 with
    | ag A _ hA rA =>
      cases e2 with
      | ag B _ hB rB =>
        obtain ⟨f1, f2, f3⟩ := eq_cells hA hB rA rB lv hs
        have view : ∀ (A : Array Value), A.size = c.P.cellsOf t → View c.P A 0 t (.agg A) := fun A h => by
          unfold aggB at hag
          have : A.extract 0 (0 + c.P.cellsOf t) = A := by rw [← h]; simp
          cases hq : c.P.underlying t with
          | none => simp [hq] at hag
          | some q => cases q <;> simp [hq] at hag <;> simp only [View, hq, this]
        have hq := run_eqAt 100 10000 (by omega) w t 0 lv A B _ _ hlv f1 f2 (by omega) (by omega) (view A (by omega)) (view B (by omega))
        rw [f3] at hq
        refine Runs.val H hd ?_ (mk_bool _)
        cases neg
        · simp only [Bool.false_eq_true, if_false] at ho ⊢
          simp only [execOp, ho, hu, hv, Sem.run_bind, run_eqGuard_agg w .eql t ox oy A B hg, Result.andThen_ok, run_eql_struct, hq, Sem.run_pure]
        · simp only [if_true] at ho ⊢
          simp only [execOp, ho, hu, hv, Sem.run_bind, run_eqGuard_agg w .neq t ox oy A B hg, Result.andThen_ok, run_neq_struct, hq, Sem.run_pure]
  · exact hs.elim

theorem s_isnil (H : Holds c β st a w) (hd : ∀ d, o.dst = some d → d < c.nt) {neg : Bool} {t t' e : TypeId} {ox : Operand} {x : X} (ho : o.op = .binOp (if neg then .neq else .eql) t ox (.const (.slice none 0 0)) t') (ht : c.P.underlying t = some (.slice e)) (hx : cX ox = some x)
    (hs : (opR st true d (.isnil neg x)).side) : Runs c β (st.app o.dst (opR st true d (.isnil neg x))) a o w := by
  simp only [opR] at hs ⊢
  split at hs
  · rename_i full sz n f h1
    have e1 := evV_ok H hx hs
    rw [h1] at e1
    generalize hu : a.eval ox = u at *
    have hq : ∀ (A : Option Addr) (m cc : Nat), (Op.equal t (.slice A m cc) (.slice none 0 0)).run c.P w = .ok A.isNone w := fun A m cc => by
      have h : ∀ d : Nat, (Op.equalIn (d + 1) t (.slice A m cc) (.slice none 0 0)).run c.P w = .ok A.isNone w := fun d => by cases A <;> simp [Op.equalIn, run_underlying ht]
      simp [Op.equal, Op.maxDepth, h 9999]
    have key : ∃ A m cc, u = .slice A m cc ∧ (A.isNone = true → n = 0) := by
      cases e1 with
      | d _ _ e1 =>
        cases e1 with
        | nil A _ _ _ => exact ⟨A, 0, 0, rfl, fun _ => rfl⟩
        | sl => exact ⟨_, _, _, rfl, fun h => by cases h⟩
    obtain ⟨A, m, cc, rfl, hn⟩ := key
    have hk : a.eval (.const (.slice none 0 0)) = .slice none 0 0 := rfl
    cases neg
    · refine Runs.val H hd (v := .bool A.isNone) ?_ (.d _ _ (.qb _ _ _ hn (fun _ => trivial)))
      simp [execOp, ho, hu, hk, eqGuard, binOp, hq]
    · refine Runs.val H hd (v := .bool (!A.isNone)) ?_ (.d _ _ (.qb _ _ _ (fun _ => trivial) (fun h => hn (by simpa using h))))
      simp [execOp, ho, hu, hk, eqGuard, binOp, hq]
  · exact hs.elim
end

end Go.Bx
