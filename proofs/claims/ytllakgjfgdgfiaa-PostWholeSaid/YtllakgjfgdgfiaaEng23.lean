/-
  The engine, part 23: helps for proofs by hand.
-/
import Derived.Test.YtllakgjfgdgfiaaEng22
namespace Go.Bx
open Go.RowKit

theorem VLe_int {k : IntKind} {a b : Int} : VLe (.d (.int k a)) (.d (.int k b)) ↔ a = b := by
  refine ⟨fun h => ?_, VLe.int⟩
  have := h (fun _ => none) (fun _ => False) default _ (mk_int k a)
  have := rel_int this
  injection this
theorem VLe_bool {a b : Bool} : VLe (.d (.bool a)) (.d (.bool b)) ↔ a = b := by
  refine ⟨fun h => ?_, VLe.bool⟩
  have := h (fun _ => none) (fun _ => False) default _ (mk_bool a)
  have := rel_bool this
  injection this

theorem RetK.pure {c : Ctx} {rs : List RV} {res : V} {st : St} (h1 : ressS st rs) (h2 : VLe (retV st rs) res) : RetK c rs res [] .ret st := ⟨st, Wk.refl c st, h1, h2, trivial⟩
theorem RetK.pure' {c : Ctx} {rs : List RV} {res : V} {st : St} (h1 : ressS st rs) (h2 : VLe (retV st rs) res) : RetK c rs res [] .nrm st := ⟨st, Wk.refl c st, h1, h2, trivial⟩

/-- The round of a loop goes on. -/
theorem lopK.on {c : Ctx} {X : Type} {S : X → St} {p : X → Prop} {m : X → Nat} {x : X} {K : Kont} {st : St} (x' : X) (hp : p x') (hm : m x' < m x) (h : Wk c st (S x')) : lopK c S p m x K .nrm st := ⟨x', hp, h, hm⟩

theorem evSo_some {q : Bool} {st : St} {x : X} : (∀ h : X, some x = some h → evS q st h) = evS q st x := propext ⟨fun h => h x rfl, fun h _ e => (Option.some.inj e) ▸ h⟩

/-- What a contract's blocks must be, by their form alone. -/
def ctrB (args : List V) (ins : List (Nat × Own)) (res : V) (outs : List (Nat × Own)) (new : List Nat) : Bool :=
  (keysO outs).all (fun k => (keysO ins).contains k || new.contains k) && (new.all (fun k => (keysO outs).contains k) && (nodupB (keysO outs) && (res.names ++ ownNames outs).all (fun k => (namesL args ++ ownNames ins).contains k || new.contains k)))

theorem ctr_own {P : Program} {f : FuncId} {fn : Func} {code : Code} {cc : C} {rs : List RV} {args : List V} {ins outs : List (Nat × Own)} {res : V} {new : List Nat} {nt : Nat}
    (hf : P.funcs[f]? = some fn) (hok : okF P f = true) (hb : fn.body = some code) (hcc : cCode P fn.ntmps code = some cc) (hrs : cRess P fn.results.toList = some rs) (hnt : fn.ntmps = nt) (hlen : args.length ≤ nt)
    (hB : ctrB args ins res outs new = true) (h : ∀ c : Ctx, c.P = P → c.fn = namesL args ++ ownNames ins → vcC c cc ⟨initE 0 args, ins, namesL args ++ ownNames ins⟩ (RetK c rs res outs)) : Ctr P f args ins res outs new := by
  simp only [ctrB, Bool.and_eq_true, List.all_eq_true, Bool.or_eq_true, List.contains_iff_mem] at hB
  obtain ⟨h1, h2, h3, h4⟩ := hB
  exact spec_of_vc hf hok hb hcc hrs (hnt ▸ hlen) h1 h2 (nodupB_ok h3) h4 (fun c e1 _ e2 => h c e1 e2)

/-- A contract, for arguments of which more is known. -/
theorem Ctr.arg {P : Program} {f : FuncId} {args args' : List V} {ins outs : List (Nat × Own)} {res : V} {new : List Nat} (h : Ctr P f args' ins res outs new) (hv : VsLe args args') : Ctr P f args ins res outs new := by
  obtain ⟨h1, h2, h3, h4⟩ := h
  obtain ⟨hl, hr⟩ := VsLe.get hv
  refine ⟨h1, h2, h3, fun E0 β w vals hE hsz hvals => h4 E0 β w vals hE (hsz.trans hl) fun j v x hv' hx => ?_⟩
  have hj : j < args.length := by have := (List.getElem?_eq_some_iff.1 hx).1; omega
  exact hr j args[j] x (List.getElem?_eq_getElem hj) hx _ _ _ _ (hvals j v args[j] hv' (List.getElem?_eq_getElem hj))

end Go.Bx
