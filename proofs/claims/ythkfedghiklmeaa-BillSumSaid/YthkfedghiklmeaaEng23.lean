/-
  The engine, part 23: helps for proofs by hand.
-/
import Derived.Test.YthkfedghiklmeaaEng22
namespace Go.Bx
open Go.RowKit

theorem VLe_int {k : IntKind} {a b : Int} : VLe (.d (.int k a)) (.d (.int k b)) ↔ a = b := by
  refine ⟨fun h => ?_, VLe.int⟩
  have := h (fun _ => none) (fun _ => False) default _ (mk_int k a)
  have := rel_int this
  injection this
theorem VLe_bool {a b : Bool} : VLe (.d (.bool a)) (.d (.bool b)) ↔ a = b := by
  refine ⟨fun h => ?_, VLe.bool⟩
  have := h (fun _ => none) (fun _ => False) default _ (mk_bool a)
  have := rel_bool this
  injection this

theorem RetK.pure {c : Ctx} {rs : List RV} {res : V} {st : St} (h1 : ressS st rs) (h2 : VLe (retV st rs) res) : RetK c rs res [] .ret st := ⟨st, Wk.refl c st, h1, h2, trivial⟩
theorem RetK.pure' {c : Ctx} {rs : List RV} {res : V} {st : St} (h1 : ressS st rs) (h2 : VLe (retV st rs) res) : RetK c rs res [] .nrm st := ⟨st, Wk.refl c st, h1, h2, trivial⟩

/-- The round of a loop goes on. -/
theorem lopK.on {c : Ctx} {X : Type} {S : X → St} {p : X → Prop} {m : X → Nat} {x : X} {K : Kont} {st : St} (x' : X) (hp : p x') (hm : m x' < m x) (h : Wk c st (S x')) : lopK c S p m x K .nrm st := ⟨x', hp, h, hm⟩

theorem lopX.on {c : Ctx} {X Y : Type} {S : X → St} {p : X → Prop} {m : X → Nat} {x : X} {id : Nat} {T : Y → St} {pT : Y → Prop} {K : Kont} {st : St} (x' : X) (hp : p x') (hm : m x' < m x) (h : Wk c st (S x')) : lopX c S p m x id T pT K .nrm st := ⟨x', hp, h, hm⟩
theorem evSo_some {q : Bool} {st : St} {x : X} : (∀ h : X, some x = some h → evS q st h) = evS q st x := propext ⟨fun h => h x rfl, fun h _ e => (Option.some.inj e) ▸ h⟩

/-- What a contract's blocks must be, by their form alone. -/
def ctrB (args : List V) (ins : List (Nat × Own)) (res : V) (outs : List (Nat × Own)) (new : List Nat) : Bool :=
  (keysO outs).all (fun k => (keysO ins).contains k || new.contains k) && (new.all (fun k => (keysO outs).contains k) && (nodupB (keysO outs) && (res.names ++ ownNames outs).all (fun k => (namesL args ++ ownNames ins).contains k || new.contains k)))

theorem ctr_own {P : Program} {f : FuncId} {fn : Func} {code : Code} {cc : C} {rs : List RV} {args : List V} {ins outs : List (Nat × Own)} {res : V} {new : List Nat} {nt : Nat}
    (hf : P.funcs[f]? = some fn) (hok : okF P f = true) (hb : fn.body = some code) (hcc : cCode P fn.ntmps code = some cc) (hrs : cRess P fn.results.toList = some rs) (hnt : fn.ntmps = nt) (hlen : args.length ≤ nt)
    (hB : ctrB args ins res outs new = true) (h : ∀ c : Ctx, c.P = P → c.fn = namesL args ++ ownNames ins → vcC c cc ⟨initE 0 args, ins, namesL args ++ ownNames ins⟩ (RetK c rs res outs)) : Ctr P f args ins res outs new := by
  simp only [ctrB, Bool.and_eq_true, List.all_eq_true, Bool.or_eq_true, List.contains_iff_mem] at hB
  obtain ⟨h1, h2, h3, h4⟩ := hB
  exact spec_of_vc hf hok hb hcc hrs (hnt ▸ hlen) h1 h2 (nodupB_ok h3) h4 (fun c e1 _ e2 => h c e1 e2)

/-- A contract, for arguments of which more is known. -/
theorem Ctr.arg {P : Program} {f : FuncId} {args args' : List V} {ins outs : List (Nat × Own)} {res : V} {new : List Nat} (h : Ctr P f args' ins res outs new) (hv : VsLe args args') : Ctr P f args ins res outs new := by
  obtain ⟨h1, h2, h3, h4⟩ := h
  obtain ⟨hl, hr⟩ := VsLe.get hv
  refine ⟨h1, h2, h3, fun E0 β w vals hE hsz hvals => h4 E0 β w vals hE (hsz.trans hl) fun j v x hv' hx => ?_⟩
  have hj : j < args.length := by have := (List.getElem?_eq_some_iff.1 hx).1; omega
  exact hr j args[j] x (List.getElem?_eq_getElem hj) hx _ _ _ _ (hvals j v args[j] hv' (List.getElem?_eq_getElem hj))

theorem wS {k : Nat} (h : k < 9223372036854775807) : IntKind.i64.wrap ((k : Int) + 1) = ((k + 1 : Nat) : Int) := (IntWalk.i64_in _ (by omega)).trans (by omega)
theorem wI {a : Int} (h : -9223372036854775808 ≤ a ∧ a ≤ 9223372036854775807) : IntKind.i64.wrap a = a := IntWalk.i64_in _ (by omega)
theorem drop_at {α : Type} {l : List α} {k : Nat} (h : k < l.length) : ∃ x, l.drop k = x :: l.drop (k + 1) ∧ (∀ d, l.getD k d = x) ∧ x ∈ l ∧ l[k]? = some x :=
  ⟨l[k], List.drop_eq_getElem_cons h, fun d => by simp [h], List.getElem_mem h, List.getElem?_eq_getElem h⟩
/-- Rows that are written out. -/
inductive LitI (k : IntKind) : List D → List Int → Prop where
  | nil : LitI k [] []
  | cons (n : Int) (ds : List D) (ns : List Int) (h : LitI k ds ns) : LitI k (.int k n :: ds) (n :: ns)
/-- A row of numbers, as data. -/
def slK (k : IntKind) (l : List Int) : D := .sl false 1 l.length (fun i => [.int k (l.getD i 0)])
theorem LitI.get {k : IntKind} : ∀ {ds : List D} {ns : List Int}, LitI k ds ns → ds.length = ns.length ∧ ∀ i, i < ns.length → (ds.drop i).take 1 = [.int k (ns.getD i 0)]
  | _, _, .nil => ⟨rfl, fun i hi => absurd hi (Nat.not_lt_zero i)⟩
  | _, _, .cons n ds ns h => by
    obtain ⟨h1, h2⟩ := h.get
    refine ⟨by simp [h1], fun i hi => ?_⟩
    cases i with
    | zero => simp
    | succ i => simpa using h2 i (by simpa using hi)
theorem LitI.vle {k : IntKind} {full : Bool} {n : Nat} {ds : List D} {ns : List Int} (h : LitI k ds ns) (hn : n = ns.length) : VLe (.d (.sl full 1 n (litRow 1 ds))) (.d (slK k ns)) :=
  VLe.sl hn (fun _ => rfl) (by simp) fun i hi => by
    have := h.get.2 i (by omega)
    simpa [litRow] using this
/-- A row that is filled from its head. -/
theorem OLe.snoc {e n : Nat} {k : IntKind} {l : List Int} {v a : Int} : OLe (.row e 1 n (fun i' => if i' = l.length then putD [.int k a] 0 [.int k v] else [.int k (l.getD i' 0)])) (.row e 1 n (fun i => [.int k ((l ++ [v]).getD i 0)])) :=
  OLe.row rfl fun i hi => by
    by_cases h : i = l.length
    · subst h; simp [putD]
    · simp only [if_neg h]
      by_cases h2 : i < l.length
      · simp [List.getD_eq_getElem?_getD, List.getElem?_append_left h2]
      · have h3 : l.length < i := by omega
        rw [List.getD_eq_getElem?_getD, List.getD_eq_getElem?_getD, List.getElem?_eq_none (by omega), List.getElem?_eq_none (by simp; omega)]
theorem OLe.snoc0 {e n : Nat} {k : IntKind} {l : List Int} : OLe (.row e 1 n (fun i => [.int k (l.getD i 0)])) (.row e 1 n (fun i => [.int k ((l ++ [0]).getD i 0)])) :=
  OLe.row rfl fun i hi => by
    by_cases h2 : i < l.length
    · simp [List.getD_eq_getElem?_getD, List.getElem?_append_left h2]
    · by_cases h : i = l.length
      · subst h; simp
      · rw [List.getD_eq_getElem?_getD, List.getD_eq_getElem?_getD, List.getElem?_eq_none (by omega), List.getElem?_eq_none (by simp; omega)]
/-- An element is put behind a row. -/
theorem OLe.app1 {X : Type} {e sz : Nat} {F : Nat → List D} {l : List X} {v d : X} (cells : X → List D) (h1 : ∀ i, i < l.length → F i = cells (l.getD i d)) (h2 : F l.length = cells v) :
    OLe (.row e sz (l.length + 1) F) (.row e sz (l ++ [v]).length (fun i => cells ((l ++ [v]).getD i d))) :=
  OLe.row (by simp) fun i hi => by
    by_cases h : i < l.length
    · rw [h1 i h]
      simp [List.getD_eq_getElem?_getD, List.getElem?_append_left h]
    · have h3 : i = l.length := by omega
      subst h3
      simp [h2]
/-- Rows, one behind the other. -/
theorem OLe.appL {X : Type} {e sz m : Nat} {F : Nat → List D} {l r : List X} {d : X} (cells : X → List D) (hm : m = r.length) (h1 : ∀ i, i < l.length → F i = cells (l.getD i d)) (h2 : ∀ i, i < r.length → F (l.length + i) = cells (r.getD i d)) :
    OLe (.row e sz (l.length + m) F) (.row e sz (l ++ r).length (fun i => cells ((l ++ r).getD i d))) :=
  OLe.row (by simp [hm]) fun i hi => by
    by_cases h : i < l.length
    · rw [h1 i h]
      simp [List.getD_eq_getElem?_getD, List.getElem?_append_left h]
    · have e : l.length + (i - l.length) = i := by omega
      have := h2 (i - l.length) (by omega)
      rw [e] at this
      rw [this]
      simp [List.getD_eq_getElem?_getD, List.getElem?_append_right (Nat.le_of_not_lt h)]
/-- A name, renamed on the way. -/
theorem Wk.snoc {c : Ctx} {a : St} {s k k' : Nat} {o o' : Own} {env : List (Nat × V)} {own : List (Nat × Own)} {nm : List Nat} (fn : List Nat) (hfn : c.fn = fn)
    (hB1 : wkB fn ⟨(s, .osl k) :: env, (k, o) :: own, k :: nm⟩ = true) (hB2 : wkB fn ⟨(s, .osl k') :: env, (k', o) :: own, k' :: nm⟩ = true)
    (hs : get a.env s = .osl k) (hk : own? a.own k = some o') (hoo : OLe o' o) (he : EnvLe a.env env) (ho : OwnLe a.own own) (hn : k' ∉ k :: nm)
    (he2 : EnvLe ((s, .osl k') :: (s, .osl k) :: env) ((s, .osl k') :: env)) (ho2 : OwnLe (setO (delO ((k, o) :: own) k) k' o) ((k', o) :: own)) : Wk c a ⟨(s, .osl k') :: env, (k', o) :: own, k' :: nm⟩ :=
  (Wk.of (b := ⟨(s, .osl k) :: env, (k, o) :: own, k :: nm⟩) fn hfn hB1 ⟨by rw [hs]; exact VLe.refl _, he⟩ ⟨⟨o', hk, hoo⟩, ho⟩).trans
    ((Wk.ren (k := k) (k' := k') (ss := [s]) (by simp [own?]) hn (by simp [Go.Bx.get])).trans (Wk.of fn hfn hB2 he2 ho2))
/-- A call that a row of one's own is handed to, for good. -/
theorem valid_pub {c : Ctx} {d : Option Nat} {f : Nat} {xs : List X} {st : St} {k e sz n : Nat} {F : Nat → List D} {res : V} (ho : own? st.own k = some (.row e sz n F)) (hS : Ctr c.P f (pubL k (.sl false sz n F) (evVs st xs)) [] res [] []) (hs : evSs true st xs) :
    Valid c ⟨d, none, .call f xs⟩ st { val := res, upd := [(k, none)], rd := [k], new := [] } := by
  intro st1 h1 h2 h3 ops o hc β a w H Q K hK
  have hcg := hc.gd
  have hg : o.guard = none := by
    cases hg : o.guard with
    | none => rfl
    | some jw => simp only [hg] at hcg; obtain ⟨s, _, h⟩ := hcg; cases h
  rw [if_pos (by simp [Region.wanted, hg])]
  have hsl : ∀ k, k ∈ xsSlots xs → get st1.env k = get st.env k := fun k hk => h1 k (gslots_call k hk)
  have e1 := evVs_congr hsl
  have e2 := evSs_congr (p := true) hsl
  obtain ⟨cl, hcl, hcc⟩ := cOp_call hc.op rfl (by simp)
  obtain ⟨h4, h5⟩ := cCall_func hcc
  obtain ⟨q1, q2⟩ := evVs_ok H h5 (by rw [e2]; exact hs)
  rw [e1] at q1 q2
  have hrun : (execOp a.eval o).run c.P w = .ok (.enter f (cl.args.map a.eval)) w := by
    have hcf := run_callFunc (w := w) hS.1 (cl.args.map a.eval)
    simp [execOp, hcl, resolve, h4, Act.eval, Deferred.ofValue, invoke, hcf]
  obtain ⟨hl, hd, H1⟩ := H.drop k (ho ▸ h2 k (by simp))
  refine call_wp H1 hS hc.dst hc.lt (by simp [keysO]) (fun k o h => by simp at h) (fun k h => by simp at h) hrun (by simpa [pubL_eq] using q1) (fun j v x hv hx => ?_) (fun β' a' w' H' => hK β' a' w' (by simpa [St.stp, applyU, newN, callU] using H'))
  rw [pubL_eq, List.getElem?_map] at hx
  obtain ⟨y, hy, rfl⟩ := Option.map_eq_some_iff.1 hx
  exact (q2 j v y (by simpa using hv) hy).pub hl hd
theorem TR.pub {P : Program} {c : Ctx} {b : Bool} {is : List I} {st : St} {acc : List Lg} {K : List Lg → St → Prop} (hP : c.P = P) (k : Nat) {d : Option Nat} {f : Nat} {xs : List X} {e sz n : Nat} {F : Nat → List D} {res : V} (ho : own? st.own k = some (.row e sz n F)) (hS : Ctr P f (pubL k (.sl false sz n F) (evVs st xs)) [] res [] []) (hs : evSs true st xs)
    (h : vcR c b is (st.stp d { val := res, upd := [(k, none)], rd := [k], new := [] }) (lgs b acc ⟨[k], [k]⟩) K) : TR c b (⟨d, none, .call f xs⟩ :: is) st acc K :=
  TR.cons { val := res, upd := [(k, none)], rd := [k], new := [] } (valid_pub ho (by rw [hP]; exact hS) hs) (fun k hk => by simp at hk) (vcR_ok h)
theorem nilK {k : IntKind} {full : Bool} {sz : Nat} {f : Nat → List D} : VLe (.d (.sl full sz 0 f)) (.d (slK k [])) := VLe.nil rfl (by simp)

end Go.Bx
