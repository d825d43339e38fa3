import Derived.Test.YtakohhkgeeoniaaGreatXA4
import Derived.ProofKit
import Derived.Deep.Slices
import Derived.Below
import Derived.Carry
import Derived.ChangeSame
import Derived.OpenShut
set_option linter.unusedSimpArgs false
set_option linter.unusedVariables false
set_option maxHeartbeats 8000000
section
namespace Go.Bx
open Go.RowKit
theorem VLe_int {k:IntKind} {a b:Int}:Ag (.d (.int k a)) (.d (.int k b))↔a=b:=by
 refine ⟨λh=>?_,Ag.int⟩
 have:=h (λ_=>none) (λ_=>False) default _ (Cx k a)
 have:=Be this
 injection this
theorem VLe_bool {a b:Bool}:Ag (.d (.bool a)) (.d (.bool b))↔a=b:=by
 refine ⟨λh=>?_,Ag.bool⟩
 have:=h (λ_=>none) (λ_=>False) default _ (Fj a)
 have:=Du this
 injection this
theorem Ci.pure {c:B3} {rs:List RV} {res:V} {st:St} (h1:ressS st rs) (h2:Ag (retV st rs) res):Ci c rs res [] .ret st:=⟨st,Wk.refl c st,h1,h2,trivial⟩
theorem Al.on {c:B3} {X:Type} {S:X→St} {p:X→Prop} {m:X→Nat} {x:X} {K:Cs} {st:St} (x':X) (hp:p x') (hm:m x'<m x) (h:Wk c st (S x')):Al c S p m x K .nrm st:=⟨x',hp,h,hm⟩
theorem Xz.on {c:B3} {X Y:Type} {S:X→St} {p:X→Prop} {m:X→Nat} {x:X} {id:Nat} {T:Y→St} {pT:Y→Prop} {K:Cs} {st:St} (x':X) (hp:p x') (hm:m x'<m x) (h:Wk c st (S x')):Xz c S p m x id T pT K .nrm st:=⟨x',hp,h,hm⟩
theorem dp {q:Bool} {st:St} {x:X}:(∀ h:X,some x=some h→evS q st h)=evS q st x:=propext ⟨λh=>h x rfl,λh _ e=>(Option.some.inj e)▸h⟩
def P9 (args:List V) (ins:List (Nat×Own)) (res:V) (outs:List (Nat×Own)) (new:List Nat):Bool:=
 (keysO outs).all (λk=>(keysO ins).contains k || new.contains k)&&(new.all (λk=>(keysO outs).contains k)&&(Hh (keysO outs)&&(res.names++A4 outs).all (λk=>(A5 args++A4 ins).contains k || new.contains k)))
theorem td {P:Program} {f:FuncId} {fn:Func} {code:Code} {cc:C} {rs:List RV} {args:List V} {ins outs:List (Nat×Own)} {res:V} {new:List Nat} {nt:Nat}
  (hf:P.funcs[f]?=some fn) (hok:In P f=true) (hb:fn.body=some code) (hcc:Dg P fn.ntmps code=some cc) (hrs:D2 P fn.results.toList=some rs) (hnt:fn.ntmps=nt) (hlen:args.length≤nt)
  (hB:P9 args ins res outs new=true) (h:∀ c:B3,c.P=P→c.fn=A5 args++A4 ins→B4 c cc ⟨initE 0 args,ins,A5 args++A4 ins⟩ (Ci c rs res outs)):Aj P f args ins res outs new:=by
 simp only [P9,Bool.and_eq_true,List.all_eq_true,Bool.or_eq_true,List.contains_iff_mem] at hB
 obtain ⟨h1,h2,h3,h4⟩:=hB
 exact Qa hf hok hb hcc hrs (hnt▸hlen) h1 h2 (E1 h3) h4 (λc e1 _ e2=>h c e1 e2)
theorem Aj.arg {P:Program} {f:FuncId} {args args':List V} {ins outs:List (Nat×Own)} {res:V} {new:List Nat} (h:Aj P f args' ins res outs new) (hv:VsLe args args'):Aj P f args ins res outs new:=by
 obtain ⟨h1,h2,h3,h4⟩:=h
 obtain ⟨hl,hr⟩:=VsLe.get hv
 refine ⟨h1,h2,h3,λE0 β w vals hE hsz hvals=>h4 E0 β w vals hE (hsz.trans hl) λj v x hv' hx=>?_⟩
 have hj:j<args.length:=by have:=(List.getElem?_eq_some_iff.1 hx).1;omega
 exact hr j args[j] x (List.getElem?_eq_getElem hj) hx _ _ _ _ (hvals j v args[j] hv' (List.getElem?_eq_getElem hj))
theorem wS {k:Nat} (h:k<9223372036854775807):IntKind.i64.wrap ((k:Int)+1)=((k+1:Nat):Int):=(IntWalk.i64_in _ (by omega)).trans (by omega)
theorem wI {a:Int} (h:-9223372036854775808≤a∧a≤9223372036854775807):IntKind.i64.wrap a=a:=IntWalk.i64_in _ (by omega)
theorem Ae {α:Type} {l:List α} {k:Nat} (h:k<l.length):∃ x,l.drop k=x::l.drop (k+1)∧(∀ d,l.getD k d=x)∧x∈l∧l[k]?=some x:=
 ⟨l[k],List.drop_eq_getElem_cons h,λd=>by simp [h],List.getElem_mem h,List.getElem?_eq_getElem h⟩
inductive Pv (k:IntKind):List D→List Int→Prop where
 |nil:Pv k [] []
 |cons (n:Int) (ds:List D) (ns:List Int) (h:Pv k ds ns):Pv k (.int k n::ds) (n::ns)
def slK (k:IntKind) (l:List Int):D:=.sl false 1 l.length (λi=>[.int k (l.getD i 0)])
theorem Pv.get {k:IntKind}:∀ {ds:List D} {ns:List Int},Pv k ds ns→ds.length=ns.length∧∀ i,i<ns.length→(ds.drop i).take 1=[.int k (ns.getD i 0)]
 |_,_,.nil=>⟨rfl,λi hi=>absurd hi (Nat.not_lt_zero i)⟩
 |_,_,.cons n ds ns h=>by
  obtain ⟨h1,h2⟩:=h.get
  refine ⟨by simp [h1],λi hi=>?_⟩
  cases i with
  |zero=>simp
  |succ i=>simpa using h2 i (by simpa using hi)
theorem Pv.vle {k:IntKind} {full:Bool} {n:Nat} {ds:List D} {ns:List Int} (h:Pv k ds ns) (hn:n=ns.length):Ag (.d (.sl full 1 n (litRow 1 ds))) (.d (slK k ns)):=
 Ag.sl hn (λ_=>rfl) (by simp) λi hi=>by
  have:=h.get.2 i (by omega)
  simpa [litRow] using this
theorem Bf.snoc {e n:Nat} {k:IntKind} {l:List Int} {v a:Int}:Bf (.row e 1 n (λi'=>if i'=l.length then Db [.int k a] 0 [.int k v] else [.int k (l.getD i' 0)])) (.row e 1 n (λi=>[.int k ((l++[v]).getD i 0)])):=
 Bf.row rfl λi hi=>by
  by_cases h:i=l.length
  ·subst h;simp [Db]
  ·simp only [if_neg h]
   by_cases h2:i<l.length
   ·simp [List.getD_eq_getElem?_getD,List.getElem?_append_left h2]
   ·have h3:l.length<i:=by omega
    rw [List.getD_eq_getElem?_getD,List.getD_eq_getElem?_getD,List.getElem?_eq_none (by omega),List.getElem?_eq_none (by simp;omega)]
theorem Bf.app1 {X:Type} {e sz:Nat} {F:Nat→List D} {l:List X} {v d:X} (cells:X→List D) (h1:∀ i,i<l.length→F i=cells (l.getD i d)) (h2:F l.length=cells v) :
  Bf (.row e sz (l.length+1) F) (.row e sz (l++[v]).length (λi=>cells ((l++[v]).getD i d))):=
 Bf.row (by simp) λi hi=>by
  by_cases h:i<l.length
  ·rw [h1 i h]
   simp [List.getD_eq_getElem?_getD,List.getElem?_append_left h]
  ·have h3:i=l.length:=by omega
   subst h3
   simp [h2]
theorem Bf.appL {X:Type} {e sz m:Nat} {F:Nat→List D} {l r:List X} {d:X} (cells:X→List D) (hm:m=r.length) (h1:∀ i,i<l.length→F i=cells (l.getD i d)) (h2:∀ i,i<r.length→F (l.length+i)=cells (r.getD i d)) :
  Bf (.row e sz (l.length+m) F) (.row e sz (l++r).length (λi=>cells ((l++r).getD i d))):=
 Bf.row (by simp [hm]) λi hi=>by
  by_cases h:i<l.length
  ·rw [h1 i h]
   simp [List.getD_eq_getElem?_getD,List.getElem?_append_left h]
  ·have e:l.length+(i-l.length)=i:=by omega
   have:=h2 (i-l.length) (by omega)
   rw [e] at this
   rw [this]
   simp [List.getD_eq_getElem?_getD,List.getElem?_append_right (Nat.le_of_not_lt h)]
theorem Wk.snoc {c:B3} {a:St} {s k k':Nat} {o o':Own} {env:List (Nat×V)} {own:List (Nat×Own)} {nm:List Nat} (fn:List Nat) (hfn:c.fn=fn)
  (hB1:V2 fn ⟨(s,.osl k)::env,(k,o)::own,k::nm⟩=true) (hB2:V2 fn ⟨(s,.osl k')::env,(k',o)::own,k'::nm⟩=true)
  (hs:get a.env s=.osl k) (hk:own? a.own k=some o') (hoo:Bf o' o) (he:EnvLe a.env env) (ho:OwnLe a.own own) (hn:k'∉k::nm)
  (he2:EnvLe ((s,.osl k')::(s,.osl k)::env) ((s,.osl k')::env)) (ho2:OwnLe (setO (delO ((k,o)::own) k) k' o) ((k',o)::own)):Wk c a ⟨(s,.osl k')::env,(k',o)::own,k'::nm⟩:=
 (Wk.of (b:=⟨(s,.osl k)::env,(k,o)::own,k::nm⟩) fn hfn hB1 ⟨by rw [hs];exact Ag.refl _,he⟩ ⟨⟨o',hk,hoo⟩,ho⟩).trans
  ((Wk.ren (k:=k) (k':=k') (ss:=[s]) (by simp [own?]) hn (by simp [Go.Bx.get])).trans (Wk.of fn hfn hB2 he2 ho2))
theorem fq {c:B3} {d:Option Nat} {f:Nat} {xs:List X} {st:St} {k e sz n:Nat} {F:Nat→List D} {res:V} (ho:own? st.own k=some (.row e sz n F)) (hS:Aj c.P f (pubL k (.sl false sz n F) (evVs st xs)) [] res [] []) (hs:evSs true st xs) :
  D0 c ⟨d,none,.call f xs⟩ st { val:=res,upd:=[(k,none)],rd:=[k],new:=[] }:=by
 intro st1 h1 h2 h3 ops o hc β a w H Q K hK
 have hcg:=hc.gd
 have hg:o.guard=none:=by
  cases hg:o.guard with
  |none=>rfl
  |some jw=>simp only [hg] at hcg;obtain ⟨s,_,h⟩:=hcg;cases h
 rw [if_pos (by simp [Region.wanted,hg])]
 have hsl:∀ k,k∈Bc xs→get st1.env k=get st.env k:=λk hk=>h1 k (Ha k hk)
 have e1:=Cj hsl
 have e2:=Cn (p:=true) hsl
 obtain ⟨cl,hcl,hcc⟩:=Gy hc.op rfl (by simp)
 obtain ⟨h4,h5⟩:=Lw hcc
 obtain ⟨q1,q2⟩:=Ee H h5 (by rw [e2];exact hs)
 rw [e1] at q1 q2
 have hrun:(execOp a.eval o).run c.P w=.ok (.enter f (cl.args.map a.eval)) w:=by
  have hcf:=Ct (w:=w) hS.1 (cl.args.map a.eval)
  simp [execOp,hcl,resolve,h4,Act.eval,Deferred.ofValue,invoke,hcf]
 obtain ⟨hl,hd,H1⟩:=H.drop k (ho▸h2 k (by simp))
 refine Mk H1 hS hc.dst hc.lt (by simp [keysO]) (λk o h=>by simp at h) (λk h=>by simp at h) hrun (by simpa [Hc] using q1) (λj v x hv hx=>?_) (λβ' a' w' H'=>hK β' a' w' (by simpa [St.stp,applyU,newN,callU] using H'))
 rw [Hc,List.getElem?_map] at hx
 obtain ⟨y,hy,rfl⟩:=Option.map_eq_some_iff.1 hx
 exact (q2 j v y (by simpa using hv) hy).pub hl hd
theorem TR.pub {P:Program} {c:B3} {b:Bool} {is:List I} {st:St} {acc:List Lg} {K:List Lg→St→Prop} (hP:c.P=P) (k:Nat) {d:Option Nat} {f:Nat} {xs:List X} {e sz n:Nat} {F:Nat→List D} {res:V} (ho:own? st.own k=some (.row e sz n F)) (hS:Aj P f (pubL k (.sl false sz n F) (evVs st xs)) [] res [] []) (hs:evSs true st xs)
  (h:El c b is (st.stp d { val:=res,upd:=[(k,none)],rd:=[k],new:=[] }) (lgs b acc ⟨[k],[k]⟩) K):TR c b (⟨d,none,.call f xs⟩::is) st acc K:=
 TR.cons { val:=res,upd:=[(k,none)],rd:=[k],new:=[] } (fq ho (by rw [hP];exact hS) hs) (λk hk=>by simp at hk) (C1 h)
end Go.Bx
end
section
namespace Go.Bx
open Go.RowKit Go.WideShapes Go.ChangeShapes
def Xb:Nat→Prop:=λ_=>False
def vx:A6:=λ_=>none
def B9 (P:Program) (t:TypeId) (sz:Nat) {X:Type} (cells:X→List D) (ok:X→Prop):Prop:=
 P.cellsOf t=sz∧(∀ x,(cells x).length=sz)∧∀ (H:Type) (enc:TypeId×Value→H) (w:World) (fuel:Nat) (cs:List Value) (y:DataW H×List MemPlace),
  DataW.trod enc P w 0 (λ_=>true) true fuel t cs=some y→cs.length=sz∧∃ x,ok x∧∀ (j:Nat) (v:Value) (d:D),cs[j]?=some v→(cells x)[j]?=some d→Cg Xb w v d
theorem B9.int {P:Program} {t:TypeId} {k:IntKind} (ht:P.underlying t=some (.int k)) (hc:P.cellsOf t=1):B9 P t 1 (λn:Int=>[.int k n]) (λn=>(Lit.int k n).wf=true):=by
 refine ⟨hc,λ_=>rfl,λH enc w fuel cs y h=>?_⟩
 obtain ⟨n,rfl,_,hw⟩:=DataW.trod_int ht h
 refine ⟨rfl,n,hw,λj v d hv hd=>?_⟩
 cases j with
 |zero=>simp at hv hd;subst hv;subst hd;exact .int k n
 |succ j=>simp at hv
theorem B9.bool {P:Program} {t:TypeId} (ht:P.underlying t=some .bool) (hc:P.cellsOf t=1):B9 P t 1 (λn:Bool=>[.bool n]) (λ_=>True):=by
 refine ⟨hc,λ_=>rfl,λH enc w fuel cs y h=>?_⟩
 obtain ⟨n,rfl,_⟩:=DataW.trod_bool ht h
 refine ⟨rfl,n,trivial,λj v d hv hd=>?_⟩
 cases j with
 |zero=>simp at hv hd;subst hv;subst hd;exact .bool n
 |succ j=>simp at hv
theorem B9.map {P:Program} {t:TypeId} {sz:Nat} {X Y:Type} {cells:X→List D} {ok:X→Prop} (h:B9 P t sz cells ok) (g:X→Y) (cells':Y→List D) (ok':Y→Prop) (hc:∀ x,cells' (g x)=cells x) (hl:∀ y,(cells' y).length=sz) (ho:∀ x,ok x→ok' (g x)):B9 P t sz cells' ok':=by
 obtain ⟨h1,_,h3⟩:=h
 refine ⟨h1,hl,λH enc w fuel cs y hy=>?_⟩
 obtain ⟨e,x,hx,hr⟩:=h3 H enc w fuel cs y hy
 exact ⟨e,g x,ho x hx,λj v d hv hd=>hr j v d hv (by rw [hc] at hd;exact hd)⟩
theorem B9.slice {P:Program} {t e:TypeId} {sz:Nat} {X:Type} [Inhabited X] {cells:X→List D} {ok:X→Prop} (h:B9 P e sz cells ok) (ht:P.underlying t=some (.slice e)) (hc:P.cellsOf t=1) (h0:0<sz) :
  B9 P t 1 (λl:List X=>[.sl false sz l.length (λi=>cells (l.getD i default))]) (λl=>l.length≤maxLen∧∀ x,x∈l→ok x):=by
 obtain ⟨h1,h2,h3⟩:=h
 refine ⟨hc,λ_=>rfl,λH enc w fuel cs y hy=>?_⟩
 rcases Deep.open_slice ht hy with ⟨rfl,_⟩|⟨a,len,cap,m,n,D',Pl,rfl,_,hl,hm,hmm,_,hi⟩
 ·refine ⟨rfl,[],⟨Nat.zero_le _,λx hx=>by simp at hx⟩,λj v d hv hd=>?_⟩
  cases j with
  |zero=>simp at hv hd;subst hv;subst hd;exact .nil _ _ _ _
  |succ j=>simp at hv
 ·rw [if_pos rfl] at hmm
  subst hmm
  have hall:∀ i,i<m→∃ x,ok x∧∀ j,j<sz→∃ v,w.cell? (a.add (i*sz+j))=some v∧∀ d,(cells x)[j]?=some d→Cg Xb w v d:=λi him=>by
   obtain ⟨cs',hc',ht'⟩:=hi i him
   rw [h1] at hc'
   obtain ⟨_,hcl,hat⟩:=World.cells?_some hc'
   obtain ⟨e',x,hx,hr⟩:=h3 H enc w n cs' _ ht'
   refine ⟨x,hx,λj hj=>⟨cs'[j]'(by omega),?_,λd hd=>hr j _ d (List.getElem?_eq_getElem (by omega)) hd⟩⟩
   have:=hat j hj
   rw [←Go.Deep.add_add,this]
   exact List.getElem?_eq_getElem (by omega)
  have hchoice:∃ xs:List X,xs.length=len∧∀ i,i<len→ok (xs.getD i default)∧∀ j,j<sz→∃ v,w.cell? (a.add (i*sz+j))=some v∧∀ d,(cells (xs.getD i default))[j]?=some d→Cg Xb w v d:=by
   have:∀ k,k≤len→∃ xs:List X,xs.length=k∧∀ i,i<k→ok (xs.getD i default)∧∀ j,j<sz→∃ v,w.cell? (a.add (i*sz+j))=some v∧∀ d,(cells (xs.getD i default))[j]?=some d→Cg Xb w v d:=by
    intro k
    induction k with
    |zero=>exact λ_=>⟨[],rfl,λi hi=>by omega⟩
    |succ k ih =>
     intro hk
     obtain ⟨xs,hxl,hx⟩:=ih (by omega)
     obtain ⟨x,hxo,hxr⟩:=hall k (by omega)
     refine ⟨xs++[x],by simp [hxl],λi hi=>?_⟩
     by_cases h:i<k
     ·have:(xs++[x]).getD i default=xs.getD i default:=by
       simp only [List.getD_eq_getElem?_getD]
       rw [List.getElem?_append_left (by omega)]
      rw [this]
      exact hx i h
     ·have e:i=k:=by omega
      subst e
      have:(xs++[x]).getD i default=x:=by
       simp only [List.getD_eq_getElem?_getD]
       rw [List.getElem?_append_right (by omega),hxl]
       simp
      rw [this]
      exact ⟨hxo,hxr⟩
   exact this len (Nat.le_refl _)
  obtain ⟨xs,hxl,hx⟩:=hchoice
  refine ⟨rfl,xs,⟨by omega,λx hx'=>?_⟩,λj v d hv hd=>?_⟩
  ·obtain ⟨i,hi',rfl⟩:=List.getElem_of_mem hx'
   have:=(hx i (by omega)).1
   simpa [hi'] using this
  ·cases j with
   |succ j=>simp at hv
   |zero =>
    simp at hv hd
    subst hv;subst hd
    by_cases hz:m=0
    ·have hl0:len=0:=by omega
     have:xs.length=0:=by omega
     rw [hz,hl0,this]
     exact .nil _ _ _ _
    ·obtain ⟨x,_,hr⟩:=hall 0 (by omega)
     obtain ⟨v,hv,_⟩:=hr 0 h0
     obtain ⟨b,off,spot⟩:=a
     have hsp:spot=none:=by
      simp only [World.cell?,Addr.add] at hv
      split at hv
      ·cases spot with
       |none=>rfl
       |some s=>simp at hv
      ·cases hv
     subst hsp
     rw [←hxl] at hl hx ⊢
     obtain ⟨g,hg⟩:∃ g:Nat→Nat→Value,∀ i j,i<xs.length→j<sz→w.cell? (Addr.add ⟨b,off,none⟩ (i*sz+j))=some (g i j)∧∀ d,(cells (xs.getD i default))[j]?=some d→Cg Xb w (g i j) d:=by
      refine ⟨λi j=>(w.cell? (Addr.add ⟨b,off,none⟩ (i*sz+j))).getD undef,λi j hi hj=>?_⟩
      obtain ⟨v,hv,hr⟩:=(hx i hi).2 j hj
      simp only [hv,Option.getD_some]
      exact ⟨trivial,hr⟩
     exact .sl _ _ _ _ b off m g hl (λh=>by cases h) (λi _=>h2 _) (λi j hi hj=>⟨λh=>h,(Cy b off _)▸(hg i j hi hj).1⟩) (λi j hi hj x hx=>(hg i j hi hj).2 x hx)
def FR (P:Program) (fs:List Field) (off sz:Nat) {X:Type} (cells:X→List D) (ok:X→Prop):Prop:=
 (∀ x,(cells x).length=sz)∧∀ (H:Type) (enc:TypeId×Value→H) (w:World) (fuel:Nat) (cs:List Value),off+sz≤cs.length →
  (∀ f,f∈fs→∃ y,DataW.trod enc P w 0 (λ_=>true) true fuel f.type ((cs.drop f.offset).take (P.cellsOf f.type))=some y) →
  ∃ x,ok x∧∀ (j:Nat) (v:Value) (d:D),cs[off+j]?=some v→(cells x)[j]?=some d→Cg Xb w v d
theorem FR.nil {P:Program} {off:Nat}:FR P [] off 0 (λ_:Unit=>[]) (λ_=>True):=
 ⟨λ_=>rfl,λH enc w fuel cs _ _=>⟨(),trivial,λj v d _ hd=>by simp at hd⟩⟩
theorem FR.cons {P:Program} {f:Field} {fs:List Field} {off s1 s2:Nat} {X Y:Type} {c1:X→List D} {c2:Y→List D} {o1:X→Prop} {o2:Y→Prop} (hoff:f.offset=off) (h1:B9 P f.type s1 c1 o1) (h2:FR P fs (off+s1) s2 c2 o2) :
  FR P (f::fs) off (s1+s2) (λx:X×Y=>c1 x.1++c2 x.2) (λx=>o1 x.1∧o2 x.2):=by
 obtain ⟨a1,a2,a3⟩:=h1
 obtain ⟨b1,b2⟩:=h2
 refine ⟨λx=>by simp [a2,b1],λH enc w fuel cs hl hf=>?_⟩
 obtain ⟨y,hy⟩:=hf f (by simp)
 rw [hoff,a1] at hy
 obtain ⟨e,x,hx,hr⟩:=a3 H enc w fuel _ y hy
 obtain ⟨x2,hx2,hr2⟩:=b2 H enc w fuel cs (by omega) (λg hg=>hf g (by simp [hg]))
 refine ⟨(x,x2),⟨hx,hx2⟩,λj v d hv hd=>?_⟩
 by_cases hj:j<s1
 ·rw [List.getElem?_append_left (by rw [a2];exact hj)] at hd
  exact hr j v d (by rw [List.getElem?_take,if_pos hj,List.getElem?_drop];exact hv) hd
 ·rw [List.getElem?_append_right (by rw [a2];omega),a2] at hd
  exact hr2 (j-s1) v d (by rw [show off+s1+(j-s1)=off+j by omega];exact hv) hd
theorem B9.struct {P:Program} {t:TypeId} {fs:Array Field} {sz:Nat} {X:Type} {cells:X→List D} {ok:X→Prop} (ht:P.underlying t=some (.struct fs)) (h:FR P fs.toList 0 sz cells ok) (hc:P.cellsOf t=sz):B9 P t sz cells ok:=by
 obtain ⟨h1,h2⟩:=h
 refine ⟨hc,h1,λH enc w fuel cs y hy=>?_⟩
 obtain ⟨xs,n,_,_,hl,hxl,hf⟩:=DataW.trod_struct ht hy
 refine ⟨hl.trans hc,?_⟩
 obtain ⟨x,hx,hr⟩:=h2 H enc w n cs (by omega) (λf hfm=>by
  obtain ⟨i,hi,e⟩:=List.getElem_of_mem hfm
  have hi':i<fs.size:=by simpa using hi
  have h3:=hf i f (by rw [Array.getElem?_eq_getElem hi'];simp at e;rw [e])
  have hix:i<xs.length:=by omega
  rw [List.getElem?_eq_getElem hix] at h3
  exact ⟨_,h3⟩)
 exact ⟨x,hx,λj v d hv hd=>hr j v d (by rw [Nat.zero_add];exact hv) hd⟩
theorem B9.array {P:Program} {t e:TypeId} {n sz:Nat} {X:Type} [Inhabited X] {cells:X→List D} {ok:X→Prop} (h:B9 P e sz cells ok) (ht:P.underlying t=some (.array n e)) (hc:P.cellsOf t=n*sz) :
  B9 P t (n*sz) (λg:Nat→X=>(List.range n).flatMap λi=>cells (g i)) (λg=>∀ i,i<n→ok (g i)):=by
 obtain ⟨h1,h2,h3⟩:=h
 have hlen:∀ (g:Nat→X) (m:Nat),((List.range m).flatMap λi=>cells (g i)).length=m*sz:=λg m=>by
  induction m with
  |zero=>simp
  |succ m ih=>rw [List.range_succ,List.flatMap_append,List.length_append,ih];simp [h2,Nat.add_mul]
 refine ⟨hc,λg=>hlen g n,λH enc w fuel cs y hy=>?_⟩
 obtain ⟨xs,m,_,_,hl,hxl,hf⟩:=DataW.trod_array ht hy
 refine ⟨hl.trans hc,?_⟩
 have hall:∀ i,∃ x,i<n→ok x∧∀ (j:Nat) (v:Value) (d:D),cs[i*sz+j]?=some v→j<sz→(cells x)[j]?=some d→Cg Xb w v d:=λi=>by
  by_cases hi:i<n
  ·have h4:=hf i hi
   rw [List.getElem?_eq_getElem (by omega),h1] at h4
   obtain ⟨e',x,hx,hr⟩:=h3 H enc w m _ _ h4
   exact ⟨x,λ_=>⟨hx,λj v d hv hj hd=>hr j v d (by rw [List.getElem?_take,if_pos hj,List.getElem?_drop];exact hv) hd⟩⟩
  ·exact ⟨default,λh=>absurd h hi⟩
 obtain ⟨g,hg⟩:=Classical.axiomOfChoice hall
 refine ⟨g,λi hi=>(hg i hi).1,?_⟩
 have:∀ m,m≤n→∀ (j:Nat) (v:Value) (d:D),cs[j]?=some v→((List.range m).flatMap λi=>cells (g i))[j]?=some d→Cg Xb w v d:=by
  intro m
  induction m with
  |zero=>intro _ j v d _ hd;simp at hd
  |succ m ih =>
   intro hm j v d hv hd
   rw [List.range_succ,List.flatMap_append] at hd
   by_cases hj:j<m*sz
   ·rw [List.getElem?_append_left (by rw [hlen];exact hj)] at hd
    exact ih (by omega) j v d hv hd
   ·rw [List.getElem?_append_right (by rw [hlen];omega),hlen] at hd
    simp only [List.flatMap_cons,List.flatMap_nil,List.append_nil] at hd
    have hjl:j-m*sz<sz:=by have:=(List.getElem?_eq_some_iff.1 hd).1;rw [h2] at this;exact this
    exact (hg m (by omega)).2 (j-m*sz) v d (by rw [show m*sz+(j-m*sz)=j by omega];exact hv) hjl hd
 exact this n (Nat.le_refl n)
section
variable {H:Type} {enc:TypeId×Value→H} {P:Program} {W:World}
theorem B9.agg {t:TypeId} {sz base:Nat} {X:Type} {cells:X→List D} {ok:X→Prop} {v:Value} {d:DataW H} {ps:List MemPlace} (h:B9 P t sz cells ok) (hag:Hl P t=some true) (hval:Value.okWide P W .any base t v)
  (hd:DataW.Trod enc P W 0 (λ_=>true) true t v d ps):∃ x,ok x∧Ai vx Xb W v (.ag ((cells x).map .d)):=by
 obtain ⟨fuel,hf⟩:=hd
 obtain ⟨h1,h2,h3⟩:=h
 obtain ⟨e,x,hx,hr⟩:=h3 H enc W fuel _ _ hf
 have hform:∃ cs,v=.agg cs:=by
  unfold Hl at hag
  unfold Value.okWide at hval
  cases hu:P.underlying t with
  |none=>simp [hu] at hag
  |some q=>cases q<;>simp [hu] at hag<;>simp only [hu] at hval<;>obtain ⟨cs,h,_⟩:=hval<;>exact ⟨cs,h⟩
 obtain ⟨cs,rfl⟩:=hform
 have hcells:(Value.agg cs).cells=cs:=rfl
 rw [hcells] at e hr
 refine ⟨x,hx,.ag _ _ (by simpa [h2] using e) λj u y hu hy=>?_⟩
 rw [List.getElem?_map] at hy
 obtain ⟨z,hz,rfl⟩:=Option.map_eq_some_iff.1 hy
 exact .d _ _ (hr j u z (by simpa using hu) hz)
theorem B9.cell {t:TypeId} {base:Nat} {X:Type} {cell:X→D} {ok:X→Prop} {v:Value} {d:DataW H} {ps:List MemPlace} (h:B9 P t 1 (λx=>[cell x]) ok) (hag:Hl P t=some false) (hval:Value.okWide P W .any base t v)
  (hd:DataW.Trod enc P W 0 (λ_=>true) true t v d ps):∃ x,ok x∧Ai vx Xb W v (.d (cell x)):=by
 obtain ⟨fuel,hf⟩:=hd
 obtain ⟨h1,h2,h3⟩:=h
 obtain ⟨e,x,hx,hr⟩:=h3 H enc W fuel _ _ hf
 have hform:v.cells=#[v]:=by
  unfold Hl at hag
  unfold Value.okWide at hval
  cases hu:P.underlying t with
  |none=>simp [hu] at hag
  |some q =>
   cases v<;>first
    |rfl
    |(cases q<;>simp [hu] at hag<;>simp [hu,Cell.okWide,Cell.ok] at hval)
 rw [hform] at hr
 exact ⟨x,hx,.d _ _ (hr 0 v (cell x) rfl rfl)⟩
end
theorem L8 {H:Type} {enc:TypeId×Value→H} {P:Program} {W W':World} (hl:laidOutB P=true) (hb:Below W.heap.size W W') {sp:Nat→Bool}:∀ {ts:List TypeId} {vs:List Value} {ds:List (DataW H)} {ps:List MemPlace},
  (ts.all λt=>P.readableRec t&&decide (t<P.types.size))=true→(∀ p,p∈ps→p.block<W.heap.size)→(∀ p,p∈ps→sp p.block=true)→DataW.TrodAll enc P W 0 (λ_=>true) true ts vs ds ps→DataW.TrodAll enc P W' 0 sp true ts vs ds ps
 |[],[],[],ps,_,_,_,h=>h
 |t::ts,v::vs,d::ds,ps,hts,hlt,hsp,h=>by
  obtain ⟨p,q,h1,h2,rfl⟩:=h
  simp only [List.all_cons,Bool.and_eq_true,decide_eq_true_eq] at hts
  exact ⟨p,q,WideElems.Trod_stays hl hts.1.1 hts.1.2 h1 (λx hx=>hb.same (hlt x (List.mem_append_left _ hx))) (λx hx=>hsp x (List.mem_append_left _ hx)),
   L8 hl hb hts.2 (λx hx=>hlt x (List.mem_append_right _ hx)) (λx hx=>hsp x (List.mem_append_right _ hx)) h2,rfl⟩
 |[],_::_,_,_,_,_,_,h=>by simp [DataW.TrodAll] at h
 |[],[],_::_,_,_,_,_,h=>by simp [DataW.TrodAll] at h
 |_::_,[],_,_,_,_,_,h=>by simp [DataW.TrodAll] at h
 |_::_,_::_,[],_,_,_,_,h=>by simp [DataW.TrodAll] at h
theorem Nr {H:Type} {enc:TypeId×Value→H} {P:Program} {W:World} {base:Nat} {sp:Nat→Bool} {hd:Bool}:∀ {ts:List TypeId} {vs:List Value} {ds:List (DataW H)} {ps:List MemPlace},DataW.TrodAll enc P W base sp hd ts vs ds ps→vs.length=ts.length∧ds.length=ts.length
 |[],[],[],_,_=>⟨rfl,rfl⟩
 |t::ts,v::vs,d::ds,ps,h=>by
  obtain ⟨p,q,_,h2,_⟩:=h
  obtain ⟨e1,e2⟩:=Nr h2
  exact ⟨by simp [e1],by simp [e2]⟩
 |[],_::_,_,_,h=>by simp [DataW.TrodAll] at h
 |[],[],_::_,_,h=>by simp [DataW.TrodAll] at h
 |_::_,[],_,_,h=>by simp [DataW.TrodAll] at h
 |_::_,_::_,[],_,h=>by simp [DataW.TrodAll] at h
def lr {H:Type} (enc:TypeId×Value→H) (P:Program) (f:FuncId) (fn:Func):Prop:=
  ∀ (W : World) (base : Nat) (args : Array Value) (ds : List (DataW H)) (p : List MemPlace), (∀ (j : Nat) t v, fn.params[j]? = some t → args[j]? = some v → Value.okWide P W .any base t v) →
    DataW.TrodAll enc P W 0 (λ_=>true) true fn.params.toList args.toList ds p →
    ∃ vs:List V,vs.length=args.size∧(∀ (j:Nat) (v:Value) (x:V),args[j]?=some v→vs[j]?=some x→Ai vx Xb W v x)∧Aj P f vs [] (.d (.bool true)) [] []
theorem bw {H:Type} {enc:TypeId×Value→H} {P:Program} {f:FuncId} {fn:Func} {s:ChangeSpec} {fresh handsOn again:Bool} (hl:laidOutB P=true) (hts:(fn.params.toList.all λt=>P.readableRec t&&decide (t<P.types.size))=true)
  {tb:TypeId} (hres:fn.resultTypes.toList=[tb]) (htb:P.underlying tb=some .bool) (hvars:s.vars=[]) (hsp:∀ ds:List (DataW H),ds.length=fn.params.size→s.fn H ds={ results:=[.lit (.bool true)],args:=ds })
  (hr:lr enc P f fn) (W:World) (base:Nat) (args:Array Value) (ds gs:List (DataW H)) (before:List MemPlace)
  (hval:∀ (j:Nat) t v,fn.params[j]?=some t→args[j]?=some v→Value.okWide P W .any base t v)
  (hW:DataW.Whole enc P fn.params.toList s.vars false W args.toList ds gs before) :
  Calls P f args W λe W'=>∃ v,e=.returned v∧s.post enc P fn false fresh handsOn again W args v W':=by
 have hW':=hW
 obtain ⟨p,q,hA,hV,rfl,hfz,hnd⟩:=hW
 rw [hvars] at hV
 obtain ⟨rfl,rfl⟩:=trodVars_none hV
 obtain ⟨vs,hvl,hvr,hctr⟩:=hr W base args ds p hval hA
 obtain ⟨_,_,_,hc⟩:=hctr
 refine (hc Xb vx W args (λb h=>h.elim) hvl.symm (λj v x hv hx=>(hvr j v x hv hx).lasts' (E':=Eo Xb vx []) (λb _ h=>⟨?_,rfl⟩) (A6.le.refl _)) ⟨λk o h=>by simp at h,by simp [keysO],λk k' h=>by simp [keysO] at h,λk h=>by simp [keysO] at h⟩ (λk h=>by simp at h)).mono ?_
 ·rintro (h|⟨k,h1,_⟩)
  ·exact h
  ·simp [keysO] at h1
 rintro e W' ⟨v,β',rfl,_,_,hv,_,hk,_⟩
 have hv:=Du hv
 subst hv
 have hb:Below W.heap.size W W':=⟨hk.os,hk.tape,hk.output,hk.size,λk hk'=>hk.block k hk' (λ⟨k',h1,_⟩=>by simp [keysO] at h1)⟩
 obtain ⟨hl1,hl2⟩:=Nr hA
 have hsf:=hsp ds (by simpa using hl2)
 have hrs:fn.resultTypes.size=1:=by have:=congrArg List.length hres;simpa using this
 have hlt:∀ x,x∈p→x.block<W.heap.size:=λx hx=>hW'.lt x (by simpa using hx)
 have harg:∀ sp:Nat→Bool,(∀ x,x∈p→sp x.block=true)→DataW.TrodAll enc P W' 0 sp true fn.params.toList args.toList (s.fn H (ds++[])).args p:=λsp hs=>by
  rw [List.append_nil,hsf]
  exact L8 hl hb hts hlt hs hA
 have hvar:∀ sp:Nat→Bool,DataW.TrodVars enc P W' sp s.vars (s.fn H (ds++[])).vars []:=λsp=>by
  rw [List.append_nil,hsf,hvars]
  rfl
 have hrd:∀ (bb:Nat) (sp:Nat→Bool) (hd:Bool),DataW.TrodAll enc P W' bb sp hd fn.resultTypes.toList ((Value.bool true).resultList fn.resultTypes.size) (s.fn H (ds++[])).results []:=λbb sp hd=>by
  rw [List.append_nil,hsf,hres,hrs]
  exact trodAll_mk1 ⟨1,by simp [DataW.trod,htb,Value.cells]⟩
 have hin:∀ x,x∈p→decide (x.block<W.heap.size)=true:=λx hx=>by simpa using hlt x hx
 have hwa:=trodAll_append (harg (λ_=>true) (λ_ _=>rfl)) (hrd 0 (λ_=>true) true)
 refine ⟨_,rfl,ds,[],p++[],[],p,[],hW',hrd _ _ _,harg _ hin,hvar _,World.keptBut_mono (λx hx=>⟨hx,.inr (by simpa using hx)⟩) (hb.frame (·∈p++[])),λ_=>⟨λj t r ht hr'=>?_,_,_,([]++p)++[],⟨[]++p,[],hwa,hvar _,rfl,λbk off hx=>?_,λh=>by cases h⟩,λx hx _=>?_⟩⟩
 ·have ht':fn.resultTypes.toList[j]?=some t:=by simpa using ht
  rw [hres] at ht'
  rw [hrs] at hr'
  cases j with
  |succ j=>simp at ht'
  |zero =>
   simp [Value.resultList] at ht' hr'
   subst ht';subst hr'
   simp [Value.okWide,htb,Cell.okWide,Cell.ok]
 ·rw [hb.frozen (hlt _ (by simpa using hx))]
  exact hfz bk off hx
 ·simpa using hx
section
variable {W:World}
theorem rel2 {v0 v1:Value} {x0 x1:V} (h0:Ai vx Xb W v0 x0) (h1:Ai vx Xb W v1 x1):∀ (j:Nat) (v:Value) (x:V),(#[v0,v1]:Array Value)[j]?=some v→[x0,x1][j]?=some x→Ai vx Xb W v x:=λj v x hv hx=>by
 match j,hv,hx with
 |0,hv,hx=>simp at hv hx;subst hv;subst hx;exact h0
 |1,hv,hx=>simp at hv hx;subst hv;subst hx;exact h1
 |j+2,hv,hx=>simp at hx
end
end Go.Bx
end
section
namespace Go.Bx
open Go.RowKit
mutual
def pubFV (k:Nat) (ds:List D):V→V
 |.own k' off=>if k'=k then .mem (dropD ds off) else .own k' off
 |.ag cs=>.ag (pubFL k ds cs)
 |.tup cs=>.tup (pubFL k ds cs)
 |.un=>.un
 |.d y=>.d y
 |.mem cs=>.mem cs
 |.osl k'=>.osl k'
 |.osub k' sz lo n=>.osub k' sz lo n
 |.optr k' sz i off=>.optr k' sz i off
 |.fn f a b=>.fn f (pubFL k ds a) (pubFL k ds b)
 |.ifc t v=>.ifc t v
 |.gd c v=>.gd c v
def pubFL (k:Nat) (ds:List D):List V→List V
 |[]=>[]
 |v::l=>pubFV k ds v::pubFL k ds l
end
def pubFE (k:Nat) (ds:List D):List (Nat×V)→List (Nat×V)
 |[]=>[]
 |(s,v)::l=>(s,pubFV k ds v)::pubFE k ds l
def pubFO (k:Nat) (ds:List D):List (Nat×Own)→List (Nat×Own)
 |[]=>[]
 |(k',.fix cs)::l=>(k',.fix (pubFL k ds cs))::pubFO k ds l
 |(k',.lit e sz n cs)::l=>(k',.lit e sz n (pubFL k ds cs))::pubFO k ds l
 |(k',.row e sz n f)::l=>(k',.row e sz n f)::pubFO k ds l
 |(k',.mp z g)::l=>(k',.mp z g)::pubFO k ds l
 |(k',.lp z g)::l=>(k',.lp z g)::pubFO k ds l
theorem H5 (k:Nat) (x:List D) (l:List V):pubFL k x l=l.map (pubFV k x):=by
 induction l with
 |nil=>rfl
 |cons v l ih=>simp [pubFL,ih]
def nc (k:Nat) (x:List D):Own→Own
 |.fix cs=>.fix (pubFL k x cs)
 |.lit e sz n cs=>.lit e sz n (pubFL k x cs)
 |.row e sz n f=>.row e sz n f
 |.mp z g=>.mp z g
 |.lp z g=>.lp z g
theorem Vt (k:Nat) (x:List D) (l:List (Nat×Own)):pubFO k x l=l.map λp=>(p.1,nc k x p.2):=by
 induction l with
 |nil=>rfl
 |cons p l ih =>
  obtain ⟨k',o⟩:=p
  cases o<;>simp [pubFO,nc,ih]
theorem Ai.pubF {β:A6} {E E':Nat→Prop} {w:World} {k b:Nat} {ds:List D} (hl:B5 E E' w w) (hb:β k=some (.pointer (some ⟨b,0,none⟩)))
  (hc:∀ j x,ds[j]?=some x→¬ E' b∧∃ v,w.cell? ⟨b,j,none⟩=some v∧Cg E' w v x) {v:Value} {y:V} (h:Ai β E w v y):Ai β E' w v (pubFV k ds y):=by
 induction h with
 |own k' off b' h =>
  simp only [pubFV]
  split
  ·rename_i e
   subst e
   rw [hb] at h
   injection h with h;injection h with h;injection h with h;injection h with h
   subst h
   rw [Jo]
   refine .mem _ b off (λj=>(w.cell? ⟨b,off+j,none⟩).getD undef) (λj hj=>?_) (λj x hx=>?_)
   ·rw [List.length_drop] at hj
    obtain ⟨h1,v,h2,-⟩:=hc (off+j) _ (List.getElem?_eq_getElem (by omega))
    exact ⟨h1,by rw [h2];rfl⟩
   ·rw [List.getElem?_drop] at hx
    obtain ⟨-,v,h2,h3⟩:=hc (off+j) _ hx
    rw [h2];exact h3
  ·exact .own k' off b' h
 |osl k' v h h1=>exact .osl _ _ h h1
 |ag arr cs h1 r1 ih =>
  simp only [pubFV,H5]
  refine .ag _ _ (by simpa using h1) λj v y hv hy=>?_
  rw [List.getElem?_map] at hy
  obtain ⟨y0,hy0,rfl⟩:=Option.map_eq_some_iff.1 hy
  exact ih j v y0 hv hy0
 |tup arr cs h1 r1 ih =>
  simp only [pubFV,H5]
  refine .tup _ _ (by simpa using h1) λj v y hv hy=>?_
  rw [List.getElem?_map] at hy
  obtain ⟨y0,hy0,rfl⟩:=Option.map_eq_some_iff.1 hy
  exact ih j v y0 hv hy0
 |un v=>exact .un v
 |d v y h=>exact .d v y (h.lasts hl)
 |mem cs b off g hcell hrel=>exact (Ai.mem (β:=β) cs b off g hcell hrel).lasts' hl (A6.le.refl β)
 |osub k' sz lo n b m c a h h1 h2=>exact .osub k' sz lo n b m c a h h1 h2
 |osub0 k' sz A h=>exact .osub0 k' sz A h
 |optr k' sz i off b m c h=>exact .optr k' sz i off b m c h
 |fn f fi ca first cap h1 h2 r1 r2 ih1 ih2 =>
  simp only [pubFV,H5]
  refine .fn f fi ca _ _ (by simpa using h1) (by simpa using h2) (λj v y hv hy=>?_) (λj v y hv hy=>?_)
  ·rw [List.getElem?_map] at hy
   obtain ⟨y0,hy0,rfl⟩:=Option.map_eq_some_iff.1 hy
   exact ih1 j v y0 hv hy0
  ·rw [List.getElem?_map] at hy
   obtain ⟨y0,hy0,rfl⟩:=Option.map_eq_some_iff.1 hy
   exact ih2 j v y0 hv hy0
 |ifc t v y h _=>exact (Ai.ifc (β:=β) t v y h).lasts' hl (A6.le.refl β)
 |gd c v y h h' _=>exact (Ai.gd (β:=β) c v y h h').lasts' hl (A6.le.refl β)
theorem Wk.pubF {c:B3} {a:St} (k:Nat) {cs:List V} {ds:List D} (ho:own? a.own k=some (.fix cs)) (hd:toDs cs=some ds):Wk c a ⟨pubFE k ds a.env,pubFO k ds (delO a.own k),a.nm⟩:=by
 intro β fr w H
 have hkk:=Ab (Ah ho)
 have hdel:=λk1=>Id (l:=a.own) (k:=k) H.own.nodup k1
 obtain ⟨b,arr,e,hv,hh,hsz,hr⟩:=Bb H ho
 have hcs:=Fg hd
 have hkp:keysO (pubFO k ds (delO a.own k))=keysO (delO a.own k):=by
  rw [Vt];simp [keysO]
 have hEe:Eo c.E0 β (pubFO k ds (delO a.own k))=Eo c.E0 β (delO a.own k):=by
  unfold Eo;rw [hkp]
 have hE:∀ x,Eo c.E0 β (delO a.own k) x→Eo c.E0 β a.own x:=by
  rintro x (h|⟨k1,h1,h2⟩)
  ·exact .inl h
  ·exact .inr ⟨k1,((hdel k1).1 h1).1,h2⟩
 have hl:B5 (Eo c.E0 β a.own) (Eo c.E0 β (delO a.own k)) w w:=λx _ hx=>⟨λh=>hx (hE x h),rfl⟩
 have hbk:β.blk k=some b:=by simp [A6.blk,hv,B0]
 have hnb:¬ Eo c.E0 β (delO a.own k) b:=by
  rintro (h|⟨k1,h1,h2⟩)
  ·exact (H.own.lt k hkk b hbk).2 h
  ·obtain ⟨h3,h4⟩:=(hdel k1).1 h1
   exact H.own.apart k1 k h3 hkk h4 b h2 hbk
 have hc:∀ j x,ds[j]?=some x→¬ Eo c.E0 β (delO a.own k) b∧∃ v,w.cell? ⟨b,j,none⟩=some v∧Cg (Eo c.E0 β (delO a.own k)) w v x:=λj x hx=>by
  have hj:j<arr.size:=by
   have:=(List.getElem?_eq_some_iff.1 hx).1
   rw [hsz,hcs];simpa using this
  refine ⟨hnb,arr[j],?_,?_⟩
  ·rw [cell_of_row w b j arr e (0,0) hh];simp [hj]
  ·exact (J3 (hr j _ (.d x) (Array.getElem?_eq_getElem hj) (by rw [hcs];simp [hx]))).lasts hl
 have hpub:∀ {u:Value} {y:V},Ai β (Eo c.E0 β a.own) w u y→Ai β (Eo c.E0 β (pubFO k ds (delO a.own k))) w u (pubFV k ds y):=λh=>by
  rw [hEe]
  exact h.pubF hl hv hc
 refine ⟨β,H.sz,H.df,λs=>?_,⟨λk1 o1 h1=>?_,by rw [hkp];exact Eh H.own.nodup,λk1 k2 h1 h2=>H.own.apart k1 k2 ((hdel k1).1 (hkp▸h1)).1 ((hdel k2).1 (hkp▸h2)).1,λk1 h1=>H.own.lt k1 ((hdel k1).1 (hkp▸h1)).1⟩,λk1 h1=>H.fr k1 ((hdel k1).1 (hkp▸h1)).1,λk1 h1=>H.kn k1 ((hdel k1).1 (hkp▸h1)).1,H.nm,H.kp,H.fx⟩
 ·have:∀ (l:List (Nat×V)),get (pubFE k ds l) s=pubFV k ds (get l s):=by
   intro l
   induction l with
   |nil=>simp [pubFE,get,pubFV]
   |cons p l ih =>
    obtain ⟨s',y⟩:=p
    simp only [pubFE,get]
    split
    ·rfl
    ·exact ih
  simp only [this]
  exact hpub (H.env s)
 ·rw [Vt,List.mem_map] at h1
  obtain ⟨⟨k2,o2⟩,h2,h3⟩:=h1
  simp only [Prod.mk.injEq] at h3
  obtain ⟨rfl,rfl⟩:=h3
  have hok:=H.own.ok k2 o2 (Mn h2)
  cases o2 with
  |fix cs2 =>
   obtain ⟨b2,arr2,e',g1,g2,g3,g4⟩:=hok
   refine ⟨b2,arr2,e',g1,g2,by simpa [H5] using g3,λj v x hv' hx=>?_⟩
   rw [H5,List.getElem?_map] at hx
   obtain ⟨y,hy,rfl⟩:=Option.map_eq_some_iff.1 hx
   exact hpub (g4 j v y hv' hy)
  |row e' sz' n' ff=>rw [hEe];exact hok.lasts hl (A6.le.refl β) (λ_ _=>rfl)
  |mp z' g'=>rw [hEe];exact hok.lasts hl (A6.le.refl β) (λ_ _=>rfl)
  |lp z' g'=>rw [hEe];exact hok.lasts hl (A6.le.refl β) (λ_ _=>rfl)
  |lit e' sz' n' cs2 =>
   obtain ⟨v0,xs0,g1,g2,g3,g4⟩:=hok
   refine ⟨v0,xs0,g1,g2,by simpa [H5] using g3,λj v x hv' hx=>?_⟩
   rw [H5,List.getElem?_map] at hx
   obtain ⟨y,hy,rfl⟩:=Option.map_eq_some_iff.1 hx
   exact hpub (g4 j v y hv' hy)
theorem TR.aslO {c:B3} {st:St} {is:List I} {acc:List Lg} {K:List Lg→St→Prop} {d:Option Nat} {sz n k off:Nat} {x:X} {cs:List V} {ds:List D} (hx:evV st x=.own k off) (ho:own? st.own k=some (.fix cs)) (hd:toDs cs=some ds)
  (hx2:evV ⟨pubFE k ds st.env,pubFO k ds (delO st.own k),st.nm⟩ x=.mem (dropD ds off)) (hs:evS true ⟨pubFE k ds st.env,pubFO k ds (delO st.own k),st.nm⟩ x) (hl:n*sz≤(dropD ds off).length)
  (h:El c false is (St.stp ⟨pubFE k ds st.env,pubFO k ds (delO st.own k),st.nm⟩ d { val:=.d (.sl true sz n (litRow sz (dropD ds off))),upd:=[],rd:=[],new:=[] }) acc K):TR c false (⟨d,none,.asl sz n x⟩::is) st acc K:=
 TR.wk _ (Wk.pubF k ho hd) (TR.asl hx2 hs hl h)
theorem B4.scope0 {c:B3} {st:St} {K:Cs} {l:Nat} {a b:C} (h:B4 c a st (Rr l (λ_=>False) K)):B4 c (.scope l a b) st K:=
 ⟨Unit,λ_=>st,λ_=>False,λ_=>0,Qg (λe st h=>by
  cases e with
  |nrm=>exact h
  |exit i =>
   rw [jmpK_exit] at h ⊢
   split at h
   ·exact h.elim
   ·rename_i hi;rw [if_neg hi];exact h
  |ret=>exact h) h,λ_ hp=>hp.elim⟩
theorem B4.scope {c:B3} {st:St} {K:Cs} {l:Nat} {a b:C} {X:Type} (S:X→St) (p:X→Prop) (m:X→Nat) (h:B4 c a st (Rr l (λst=>∃ x,p x∧Wk c st (S x)) K))
  (hb:∀ x,p x→B4 c b (S x) (Rr l (λst=>∃ x',p x'∧Wk c st (S x')∧m x'<m x) K)):B4 c (.scope l a b) st K:=⟨X,S,p,m,h,hb⟩
end Go.Bx
end
section
namespace Go.Bx
open Go.RowKit
def Ss (P:Program) (t:TypeId) (name:String):Option (FuncId×Bool):=
 match P.info? t with
 |some i =>
  match i.methods.find? (·.name == name) with
  |some m=>if m.path=#[] then m.func else none
  |none=>none
 |none=>none
theorem Xw {P:Program} {t:TypeId} {name:String} {r:FuncId×Bool} (h:Ss P t name=some r):∃ i m,P.info? t=some i∧i.methods.find? (·.name == name)=some m∧m.path=#[]∧m.func=some r:=by
 unfold Ss at h
 split at h
 ·rename_i i hi
  split at h
  ·rename_i m hm
   split at h
   ·rename_i hp
    exact ⟨i,m,hi,hm,hp,h⟩
   ·cases h
  ·cases h
 ·cases h
theorem Nb (P:Program):∃ n,P.types.size+Made.depth=n+1:=⟨P.types.size+(Made.depth-1),by simp [Made.depth]⟩
theorem Qn {P:Program} {t e:TypeId} {name:String} {f:FuncId} {v:Value} {w:World} (h:Ss P t name=some (f,true)) (ht:P.underlying t=some (.pointer e)) (hok:In P f=true) (args:Array Value) :
  (callMethod (.iface t v) name args).run P w=.ok (.enter f (#[v]++args)) w:=by
 obtain ⟨i,m,hi,hm,hp,hf⟩:=Xw h
 obtain ⟨n,hn⟩:=Nb P
 simp only [callMethod,Sem.run_bind,run_program,Result.andThen_ok,hn,method,typeInfo,hi,hm,hp,hf,follow,receiverAt,run_underlying ht,Place.get,Sem.run_pure]
 exact Ct hok _
theorem Pn {P:Program} {t e:TypeId} {name:String} {f:FuncId} {a:Addr} {v:Value} {w:World} (h:Ss P t name=some (f,false)) (ht:P.underlying t=some (.pointer e)) (hok:In P f=true) (hl:(loadVar e a).run P w=.ok v w) (args:Array Value) :
  (callMethod (.iface t (.pointer (some a))) name args).run P w=.ok (.enter f (#[v]++args)) w:=by
 obtain ⟨i,m,hi,hm,hp,hf⟩:=Xw h
 obtain ⟨n,hn⟩:=Nb P
 have hw:∀ (s:String),(Builtin.ssaWrapNilChk_ #[t] t #[.pointer (some a),strVal "",strVal s]).run P w=.ok (.pointer (some a)) w:=λs=>rfl
 have he:(#[]:Array FieldStep).isEmpty=true:=rfl
 simp only [callMethod,Sem.run_bind,run_program,Result.andThen_ok,hn,method,typeInfo,hi,hm,hp,hf,follow,receiverAt,run_underlying ht,Place.get,Sem.run_pure,he,if_true,hw,asAddr,hl]
 exact Ct hok _
theorem L4 {P:Program} {t:TypeId} {fs:Array _} {name:String} {f:FuncId} {v:Value} {w:World} (h:Ss P t name=some (f,false)) (ht:P.underlying t=some (.struct fs)) (hok:In P f=true) (args:Array Value) :
  (callMethod (.iface t v) name args).run P w=.ok (.enter f (#[v]++args)) w:=by
 obtain ⟨i,m,hi,hm,hp,hf⟩:=Xw h
 obtain ⟨n,hn⟩:=Nb P
 simp only [callMethod,Sem.run_bind,run_program,Result.andThen_ok,hn,method,typeInfo,hi,hm,hp,hf,follow,receiverAt,run_underlying ht,Place.get,Sem.run_pure]
 exact Ct hok _
section
variable {c:B3} {b:Bool} {is:List I} {st:St} {acc:List Lg} {K:List Lg→St→Prop}
theorem N8 {d:Option Nat} {name:String} {x:X} {t:TypeId} {xv:V} {f:Nat} {xs:List X} {ins outs:List (Nat×Own)} {res:V} {new:List Nat} (hx:evV st x=.ifc t xv) (hm:∀ (v:Value) (w:World) (args:Array Value),(callMethod (.iface t v) name args).run c.P w=.ok (.enter f (#[v]++args)) w)
  (hS:Aj c.P f (xv::evVs st xs) ins res outs new) (hsx:evS true st x) (hs:evSs true st xs) (hin:∀ k o,(k,o)∈ins→own? st.own k=some o) (hno:(keysO ins).Nodup) :
  D0 c ⟨d,none,.ivk name x xs⟩ st { val:=res,upd:=callU ins outs,rd:=keysO ins,new:=new }:=by
 intro st1 h1 h2 h3 ops o hc β a w H Q K hK
 have hcg:=hc.gd
 have hg:o.guard=none:=by
  cases hg:o.guard with
  |none=>rfl
  |some jw=>simp only [hg] at hcg;obtain ⟨s,_,h⟩:=hcg;cases h
 rw [if_pos (by simp [Region.wanted,hg])]
 have hsl:∀ k,k∈Bc xs→get st1.env k=get st.env k:=λk hk=>h1 k (by simp [I.slots,O.slots,hk])
 have hslx:∀ k,k∈x.slots→get st1.env k=get st.env k:=λk hk=>h1 k (by simp [I.slots,O.slots,hk])
 have e1:=Cj hsl
 have e2:=Cn (p:=true) hsl
 obtain ⟨cl,hcl,hcc⟩:=Gy hc.op rfl (by simp)
 obtain ⟨ox,h4,hox,h5⟩:=So hcc
 obtain ⟨q1,q2⟩:=Ee H h5 (by rw [e2];exact hs)
 rw [e1] at q1 q2
 have hv0:=Ad H hox (by rw [An hslx];exact hsx)
 rw [Am hslx,hx] at hv0
 generalize hu:a.eval ox=u at *
 cases hv0 with
 |ifc _ v _ hv =>
  have hrun:(execOp a.eval o).run c.P w=.ok (.enter f (#[v]++cl.args.map a.eval)) w:=by
   have hcf:=hm v w (cl.args.map a.eval)
   have hx:((#[Value.iface t v]++cl.args.map a.eval:Array Value).extract 1 (#[Value.iface t v]++cl.args.map a.eval:Array Value).size)=cl.args.map a.eval:=by simp [Array.extract_append]
   simp only [execOp,hcl,resolve,h4,hu,invoke,Sem.run_bind,Sem.run_pure,Result.andThen_ok]
   have h0:(#[Value.iface t v]++cl.args.map a.eval:Array Value)[0]?=some (.iface t v):=by rw [Array.getElem?_append_left (by simp)];rfl
   simp only [h0,hx]
   exact hcf
  have hl:cl.args.size=(evVs st xs).length:=by simpa using q1
  refine Mk H hS hc.dst hc.lt hno (λk o h=>by rw [h2 k (Ab h)];exact hin k o h) h3 hrun (by simp;omega) (λj u y hu' hy=>?_) hK
  cases j with
  |zero =>
   rw [Array.getElem?_append_left (by simp)] at hu'
   simp at hu' hy;subst hu';subst hy;exact hv
  |succ j=>
   rw [List.getElem?_cons_succ] at hy
   rw [Array.getElem?_append_right (by simp)] at hu'
   simp at hu'
   exact q2 j u y (by simpa using hu') hy
theorem mi {d:Option Nat} {name:String} {x:X} {t e:TypeId} {xv:V} {f:Nat} {xs:List X} {ins outs:List (Nat×Own)} {res:V} {new:List Nat} (hx:evV st x=.ifc t xv) (hm:Ss c.P t name=some (f,true)) (ht:c.P.underlying t=some (.pointer e))
  (hS:Aj c.P f (xv::evVs st xs) ins res outs new) (hsx:evS true st x) (hs:evSs true st xs) (hin:∀ k o,(k,o)∈ins→own? st.own k=some o) (hno:(keysO ins).Nodup) :
  D0 c ⟨d,none,.ivk name x xs⟩ st { val:=res,upd:=callU ins outs,rd:=keysO ins,new:=new }:=
 N8 hx (λ_ _ args=>Qn hm ht hS.1 args) hS hsx hs hin hno
theorem Sn {d:Option Nat} {name:String} {x:X} {t e:TypeId} {k off sz:Nat} {agg:Bool} {cs:List V} {f:Nat} {xs:List X} {ins outs:List (Nat×Own)} {res:V} {new:List Nat} (hx:evV st x=.ifc t (.own k off)) (hm:Ss c.P t name=some (f,false)) (ht:c.P.underlying t=some (.pointer e))
  (hz:Hm c.P e=some sz) (hag:Hl c.P e=some agg) (h1z:agg=false→sz=1) (hko:own? st.own k=some (.fix cs)) (hlt:off+sz≤cs.length)
  (hS:Aj c.P f (cut agg cs off sz::evVs st xs) ins res outs new) (hsx:evS true st x) (hs:evSs true st xs) (hin:∀ k o,(k,o)∈ins→own? st.own k=some o) (hno:(keysO ins).Nodup) :
  D0 c ⟨d,none,.ivk name x xs⟩ st { val:=res,upd:=callU ins outs,rd:=k::keysO ins,new:=new }:=by
 intro st1 h1 h2 h3 ops o hc β a w H Q K hK
 have hcg:=hc.gd
 have hg:o.guard=none:=by
  cases hg:o.guard with
  |none=>rfl
  |some jw=>simp only [hg] at hcg;obtain ⟨s,_,h⟩:=hcg;cases h
 rw [if_pos (by simp [Region.wanted,hg])]
 have hsl:∀ k,k∈Bc xs→get st1.env k=get st.env k:=λk hk=>h1 k (by simp [I.slots,O.slots,hk])
 have hslx:∀ k,k∈x.slots→get st1.env k=get st.env k:=λk hk=>h1 k (by simp [I.slots,O.slots,hk])
 have e1:=Cj hsl
 have e2:=Cn (p:=true) hsl
 obtain ⟨cl,hcl,hcc⟩:=Gy hc.op rfl (by simp)
 obtain ⟨ox,h4,hox,h5⟩:=So hcc
 obtain ⟨q1,q2⟩:=Ee H h5 (by rw [e2];exact hs)
 rw [e1] at q1 q2
 have hv0:=Ad H hox (by rw [An hslx];exact hsx)
 rw [Am hslx,hx] at hv0
 have hko1:own? st1.own k=some (.fix cs):=by rw [h2 k (by simp)];exact hko
 obtain ⟨b',arr,e',hb,hh,hzz,hr⟩:=Bb H hko1
 generalize hu:a.eval ox=u at *
 cases hv0 with
 |ifc _ v _ hv =>
  cases hv with
  |own _ _ b'' hb' =>
  rw [hb] at hb'
  injection hb' with hb';injection hb' with hb';injection hb' with hb';injection hb' with hb'
  subst hb'
  have hcell:∀ j,j<sz→w.cell? ⟨b',off+j,none⟩=some (arr.getD (off+j) undef):=λj hj=>by
   rw [cell_of_row w b' (off+j) arr e' (0,0) hh]
   have:off+j<arr.size:=by omega
   simp [this]
  have hload:=Fe (P:=c.P) hz hag h1z hcell
  have hlv:(Instr.loadAt e (.pointer (some ⟨b',off,none⟩)))=loadVar e ⟨b',off,none⟩:=rfl
  rw [hlv] at hload
  have hrel:Ai β (Eo c.E0 β st1.own) w (if agg then .agg ((List.range sz).map λj=>arr.getD (off+j) undef).toArray else arr.getD (off+0) undef) (cut agg cs off sz):=by
   cases agg with
   |true =>
    simp only [cut,if_true]
    rw [Gq,Gp]
    refine .ag _ _ (by simp;omega) λj v y hv hy=>?_
    rw [List.getElem?_take,List.getElem?_drop] at hy
    split at hy
    ·rename_i hj
     have hlt2:off+j<arr.size:=by omega
     simp [hj,hlt2] at hv
     exact hr (off+j) v y (by rw [Array.getElem?_eq_getElem hlt2];simp [hv]) hy
    ·cases hy
   |false =>
    simp only [cut,Bool.false_eq_true,if_false]
    have h1:=h1z rfl
    have hlt2:off<arr.size:=by omega
    have h0:cs[off]?=some cs[off]:=List.getElem?_eq_getElem (by omega)
    rw [E8 h0]
    exact hr off _ _ (by simp [Array.getElem?_eq_getElem hlt2]) h0
  generalize (if agg then Value.agg ((List.range sz).map λj=>arr.getD (off+j) undef).toArray else arr.getD (off+0) undef)=lv at *
  have hrun:(execOp a.eval o).run c.P w=.ok (.enter f (#[lv]++cl.args.map a.eval)) w:=by
   have hcf:=Pn (w:=w) hm ht hS.1 hload (cl.args.map a.eval)
   have hx:((#[Value.iface t (.pointer (some ⟨b',off,none⟩))]++cl.args.map a.eval:Array Value).extract 1 (#[Value.iface t (.pointer (some ⟨b',off,none⟩))]++cl.args.map a.eval:Array Value).size)=cl.args.map a.eval:=by simp [Array.extract_append]
   simp only [execOp,hcl,resolve,h4,hu,invoke,Sem.run_bind,Sem.run_pure,Result.andThen_ok]
   have h0:(#[Value.iface t (.pointer (some ⟨b',off,none⟩))]++cl.args.map a.eval:Array Value)[0]?=some (.iface t (.pointer (some ⟨b',off,none⟩))):=by rw [Array.getElem?_append_left (by simp)];rfl
   simp only [h0,hx]
   exact hcf
  have hl:cl.args.size=(evVs st xs).length:=by simpa using q1
  refine Mk H hS hc.dst hc.lt hno (λk o h=>by rw [h2 k (by simp [Ab h])];exact hin k o h) h3 hrun (by simp;omega) (λj u y hu' hy=>?_) (λβ' a' w' H'=>hK β' a' w' (by simpa [St.stp] using H'))
  cases j with
  |zero =>
   rw [Array.getElem?_append_left (by simp)] at hu'
   simp at hu' hy;subst hu';subst hy;exact hrel
  |succ j=>
   rw [List.getElem?_cons_succ] at hy
   rw [Array.getElem?_append_right (by simp)] at hu'
   simp at hu'
   exact q2 j u y (by simpa using hu') hy
theorem TR.iv {P:Program} (hP:c.P=P) {d:Option Nat} {name:String} {x:X} {t e:TypeId} {xv:V} {f:Nat} {xs:List X} (ins outs:List (Nat×Own)) (res:V) (new:List Nat) (hx:evV st x=.ifc t xv) (hm:Ss P t name=some (f,true)) (ht:P.underlying t=some (.pointer e))
  (hS:Aj P f (xv::evVs st xs) ins res outs new) (hsx:evS true st x) (hs:evSs true st xs) (hin:∀ k o,(k,o)∈ins→own? st.own k=some o) (hno:(keysO ins).Nodup) (hnew:∀ k,k∈new→k∉st.nm)
  (h:El c b is (st.stp d { val:=res,upd:=callU ins outs,rd:=keysO ins,new:=new }) (lgs b acc ⟨keysO ins,(callU ins outs).map (·.1)++new⟩) K):TR c b (⟨d,none,.ivk name x xs⟩::is) st acc K:=
 TR.cons _ (mi hx (by rw [hP];exact hm) (by rw [hP];exact ht) (by rw [hP];exact hS) hsx hs hin hno) hnew (C1 h)
theorem TR.ivs {P:Program} (hP:c.P=P) {d:Option Nat} {name:String} {x:X} {t:TypeId} {fs:Array _} {xv:V} {f:Nat} {xs:List X} {res:V} (hx:evV st x=.ifc t xv) (hm:Ss P t name=some (f,false)) (ht:P.underlying t=some (.struct fs))
  (hS:Aj P f (xv::evVs st xs) [] res [] []) (hsx:evS true st x) (hs:evSs true st xs)
  (h:El c b is (st.stp d { val:=res,upd:=[],rd:=[],new:=[] }) (lgs b acc ⟨[],[]⟩) K):TR c b (⟨d,none,.ivk name x xs⟩::is) st acc K:=
 TR.cons { val:=res,upd:=[],rd:=[],new:=[] } (N8 hx (λ_ _ args=>L4 (by rw [hP];exact hm) (by rw [hP];exact ht) (by rw [hP];exact hS.1) args) (by rw [hP];exact hS) hsx hs (λk o h=>by simp at h) (by simp [keysO])) (λk hk=>by simp at hk) (C1 h)
theorem TR.ivsG {P:Program} (hP:c.P=P) {d:Option Nat} {s:Nat} {want:Bool} {name:String} {x:X} {t:TypeId} {fs:Array _} {xv:V} {f:Nat} {xs:List X} {res:V} (hg:gOf st.env s want=some true) (hx:evV st x=.ifc t xv) (hm:Ss P t name=some (f,false)) (ht:P.underlying t=some (.struct fs))
  (hS:Aj P f (xv::evVs st xs) [] res [] []) (hsx:evS true st x) (hs:evSs true st xs)
  (h:El c b is (st.stp d { val:=res,upd:=[],rd:=[],new:=[] }) (lgs b acc ⟨[],[]⟩) K):TR c b (⟨d,some (s,want),.ivk name x xs⟩::is) st acc K:=
 TR.cons { val:=res,upd:=[],rd:=[],new:=[] } (K7 hg (N8 hx (λ_ _ args=>L4 (by rw [hP];exact hm) (by rw [hP];exact ht) (by rw [hP];exact hS.1) args) (by rw [hP];exact hS) hsx hs (λk o h=>by simp at h) (by simp [keysO]))) (λk hk=>by simp at hk) (C1 h)
theorem TR.ivl {P:Program} (hP:c.P=P) {d:Option Nat} {name:String} {x:X} {t e:TypeId} {k off sz:Nat} {agg:Bool} {cs:List V} {f:Nat} {xs:List X} (ins outs:List (Nat×Own)) (res:V) (new:List Nat) (hx:evV st x=.ifc t (.own k off)) (hm:Ss P t name=some (f,false)) (ht:P.underlying t=some (.pointer e))
  (hz:Hm P e=some sz) (hag:Hl P e=some agg) (h1z:agg=false→sz=1) (hko:own? st.own k=some (.fix cs)) (hlt:off+sz≤cs.length)
  (hS:Aj P f (cut agg cs off sz::evVs st xs) ins res outs new) (hsx:evS true st x) (hs:evSs true st xs) (hin:∀ k o,(k,o)∈ins→own? st.own k=some o) (hno:(keysO ins).Nodup) (hnew:∀ k,k∈new→k∉st.nm)
  (h:El c b is (st.stp d { val:=res,upd:=callU ins outs,rd:=k::keysO ins,new:=new }) (lgs b acc ⟨k::keysO ins,(callU ins outs).map (·.1)++new⟩) K):TR c b (⟨d,none,.ivk name x xs⟩::is) st acc K:=
 TR.cons _ (Sn hx (by rw [hP];exact hm) (by rw [hP];exact ht) (by rw [hP];exact hz) (by rw [hP];exact hag) h1z hko hlt (by rw [hP];exact hS) hsx hs hin hno) hnew (C1 h)
end
def sw (a b k:Nat):Nat:=if k=a then b else if k=b then a else k
theorem J4 (a b k:Nat):sw a b (sw a b k)=k:=by
 unfold sw
 repeat' split
 all_goals omega
theorem sw_inj {a b k k':Nat} (h:sw a b k=sw a b k'):k=k':=by
 have:=congrArg (sw a b) h
 rwa [J4,J4] at this
theorem nd (a b:Nat) (l:List (Nat×Own)):renO (sw a b) (renO (sw a b) l)=l:=by
 induction l with
 |nil=>rfl
 |cons p l ih =>
  obtain ⟨k,o⟩:=p
  simp only [renO,ih,J4]
  congr 2
  cases o<;>simp [Own.ren,I6 (J4 a b)]
theorem K9 {β β':A6} {a b:Nat} (hp:∀ k,β' (sw a b k)=β k) (k:Nat):β'.blk (sw a b k)=β.blk k:=by
 simp [A6.blk,hp]
theorem Zd {E0:Nat→Prop} {β β':A6} {a b:Nat} (hp:∀ k,β' (sw a b k)=β k) (l:List (Nat×Own)):Eo E0 β' (renO (sw a b) l)=Eo E0 β l:=by
 funext x
 apply propext
 unfold Eo
 rw [Ax]
 constructor
 ·rintro (h|⟨k,h1,h2⟩)
  ·exact .inl h
  ·obtain ⟨k0,h3,rfl⟩:=List.mem_map.1 h1
   rw [K9 hp] at h2
   exact .inr ⟨k0,h3,h2⟩
 ·rintro (h|⟨k,h1,h2⟩)
  ·exact .inl h
  ·exact .inr ⟨sw a b k,List.mem_map.2 ⟨k,h1,rfl⟩,by rw [K9 hp];exact h2⟩
theorem aw {β β':A6} {a b:Nat} (hp:∀ k,β' (sw a b k)=β k) (l:List (Nat×Own)):Co β' (renO (sw a b) l)=Co β l:=by
 funext x
 apply propext
 unfold Co
 rw [Ax]
 constructor
 ·rintro ⟨k,h1,h2⟩
  obtain ⟨k0,h3,rfl⟩:=List.mem_map.1 h1
  rw [K9 hp] at h2
  exact ⟨k0,h3,h2⟩
 ·rintro ⟨k,h1,h2⟩
  exact ⟨sw a b k,List.mem_map.2 ⟨k,h1,rfl⟩,by rw [K9 hp];exact h2⟩
theorem Tu {a b:Nat} {l:List Nat} (h:l.Nodup):(l.map (sw a b)).Nodup:=by
 rw [List.Nodup,List.pairwise_map]
 exact h.imp λhne e=>hne (sw_inj e)
theorem At.sw {E0:Nat→Prop} {β β':A6} {w:World} {a b:Nat} {l:List (Nat×Own)} (hp:∀ k,β' (sw a b k)=β k) (h:At E0 β w l):At E0 β' w (renO (Go.Bx.sw a b) l):=by
 refine ⟨λk o hm=>?_,by rw [Ax];exact Tu h.nodup,λk k' h1 h2 hne x hx hx'=>?_,λk h1 x hx=>?_⟩
 ·rw [U4,List.mem_map] at hm
  obtain ⟨⟨k0,o0⟩,h1,h2⟩:=hm
  simp only [Prod.mk.injEq] at h2
  obtain ⟨rfl,rfl⟩:=h2
  rw [Zd hp]
  exact (h.ok k0 o0 h1).ren (λk v hv=>by rw [hp];exact hv)
 ·rw [Ax] at h1 h2
  obtain ⟨k0,h3,rfl⟩:=List.mem_map.1 h1
  obtain ⟨k1,h4,rfl⟩:=List.mem_map.1 h2
  rw [K9 hp] at hx hx'
  exact h.apart k0 k1 h3 h4 (λe=>hne (by rw [e])) x hx hx'
 ·rw [Ax] at h1
  obtain ⟨k0,h3,rfl⟩:=List.mem_map.1 h1
  rw [K9 hp] at hx
  exact h.lt k0 h3 x hx
theorem Aj.sw {P:Program} {f:FuncId} {args:List V} {ins outs:List (Nat×Own)} {res:V} {new:List Nat} (h:Aj P f args ins res outs new) (a b:Nat) :
  Aj P f (renL (Go.Bx.sw a b) args) (renO (Go.Bx.sw a b) ins) (res.ren (Go.Bx.sw a b)) (renO (Go.Bx.sw a b) outs) (new.map (Go.Bx.sw a b)):=by
 obtain ⟨g1,g2,g3,g4⟩:=h
 refine ⟨g1,λk hk=>?_,λk hk=>?_,λE0 β w vals hE hsz hv hins hnn=>?_⟩
 ·rw [Ax] at hk ⊢
  obtain ⟨k0,h3,rfl⟩:=List.mem_map.1 hk
  rcases g2 k0 h3 with h4|h4
  ·exact .inl (List.mem_map.2 ⟨k0,h4,rfl⟩)
  ·exact .inr (List.mem_map.2 ⟨k0,h4,rfl⟩)
 ·rw [Ax]
  obtain ⟨k0,h3,rfl⟩:=List.mem_map.1 hk
  exact List.mem_map.2 ⟨k0,g3 k0 h3,rfl⟩
 let β0:A6:=λk=>β (Go.Bx.sw a b k)
 have hp0:∀ k,β0 (Go.Bx.sw a b k)=β k:=λk=>by simp only [β0,J4]
 have hp1:∀ k,β (Go.Bx.sw a b k)=β0 k:=λk=>rfl
 have hins0:At E0 β0 w ins:=by
  have:=hins.sw hp0
  rwa [nd] at this
 have hE0:Eo E0 β (renO (Go.Bx.sw a b) ins)=Eo E0 β0 ins:=Zd hp1 ins
 have hcall:=g4 E0 β0 w vals hE (by simpa [Cq] using hsz) (λj v x hvj hx=>by
  have:=hv j v (x.ren (Go.Bx.sw a b)) hvj (by rw [Cq,List.getElem?_map,hx];rfl)
  rw [hE0] at this
  have:=this.ren (β':=β0) (p:=Go.Bx.sw a b) (λk v hk=>by rw [hp0];exact hk)
  rwa [V.ren_ren (J4 a b)] at this) hins0 (λk hk=>hnn _ (List.mem_map.2 ⟨k,hk,rfl⟩))
 refine hcall.mono λe w' he=>?_
 obtain ⟨v,β1,rfl,h1,h2,h3,h4,h5,h6⟩:=he
 let β':A6:=λk=>β1 (Go.Bx.sw a b k)
 have hp2:∀ k,β' (Go.Bx.sw a b k)=β1 k:=λk=>by simp only [β',J4]
 refine ⟨v,β',rfl,λk u hk=>?_,λk hk=>?_,?_,h4.sw hp2,?_,?_⟩
 ·have h7:β0 (Go.Bx.sw a b k)=some u:=by rw [hp0];exact hk
  exact h1 _ _ h7
 ·have h7:=h2 (Go.Bx.sw a b k) (λh8=>hk (List.mem_map.2 ⟨_,h8,J4 a b k⟩))
  rw [hp0] at h7
  exact h7
 ·rw [Zd hp2]
  exact h3.ren (λk v hk=>by rw [hp2];exact hk)
 ·rw [aw hp1];exact h5
 ·intro k hk x hx
  rw [Ax] at hk
  obtain ⟨k0,h7,rfl⟩:=List.mem_map.1 hk
  rw [K9 hp2] at hx
  rcases h6 k0 h7 x hx with h8|h8
  ·exact .inl h8
  ·exact .inr (by rw [aw hp1];exact h8)
theorem lm {p:Nat→Nat} (l:List (Nat×V)) (s:Nat):Go.Bx.get (renE p l) s=(Go.Bx.get l s).ren p:=by
 induction l with
 |nil=>simp [renE,Go.Bx.get,V.ren]
 |cons q l ih =>
  obtain ⟨s',v⟩:=q
  simp only [renE,Go.Bx.get]
  split
  ·rfl
  ·exact ih
theorem Wk.sw {c:B3} {st:St} (a b:Nat) (fn:List Nat) (hfn:c.fn=fn) (ha:a∉fn) (hb:b∉fn):Wk c st ⟨renE (Go.Bx.sw a b) st.env,renO (Go.Bx.sw a b) st.own,st.nm.map (Go.Bx.sw a b)⟩:=by
 subst hfn
 intro β fr w H
 let β':A6:=λk=>β (Go.Bx.sw a b k)
 have hp:∀ k,β' (Go.Bx.sw a b k)=β k:=λk=>by simp only [β',J4]
 have hid:∀ k,k∈c.fn→Go.Bx.sw a b k=k:=λk hk=>by
  have h1:k≠a:=λe=>ha (by rw [←e];exact hk)
  have h2:k≠b:=λe=>hb (by rw [←e];exact hk)
  unfold Go.Bx.sw
  rw [if_neg h1,if_neg h2]
 refine ⟨β',H.sz,H.df,λs=>?_,H.own.sw hp,λk hk x hx=>?_,λk hk=>?_,λk hk=>?_,H.kp,λk hk=>?_⟩
 ·rw [Zd hp,lm]
  exact (H.env s).ren (λk v hv=>by rw [hp];exact hv)
 ·rw [Ax] at hk
  obtain ⟨k0,h3,rfl⟩:=List.mem_map.1 hk
  rw [K9 hp] at hx
  exact H.fr k0 h3 x hx
 ·rw [Ax] at hk
  obtain ⟨k0,h3,rfl⟩:=List.mem_map.1 hk
  exact List.mem_map.2 ⟨k0,H.kn k0 h3,rfl⟩
 ·exact H.nm _ (λh=>hk (List.mem_map.2 ⟨_,h,J4 a b k⟩))
 ·obtain ⟨h1,h2⟩:=H.fx k hk
  refine ⟨List.mem_map.2 ⟨k,h1,hid k hk⟩,?_⟩
  have:β' k=β k:=by simp only [β',hid k hk]
  rw [this];exact h2
end Go.Bx
end
section
namespace Go.Bx
open Go.RowKit
def mapE (T:V→V):List (Nat×V)→List (Nat×V)
 |[]=>[]
 |(s,v)::l=>(s,T v)::mapE T l
def mapO (T:List V→List V):List (Nat×Own)→List (Nat×Own)
 |[]=>[]
 |(k,.fix cs)::l=>(k,.fix (T cs))::mapO T l
 |(k,.lit e sz n cs)::l=>(k,.lit e sz n (T cs))::mapO T l
 |(k,.row e sz n f)::l=>(k,.row e sz n f)::mapO T l
 |(k,.mp z g)::l=>(k,.mp z g)::mapO T l
 |(k,.lp z g)::l=>(k,.lp z g)::mapO T l
theorem fk (T:List V→List V) (l:List (Nat×Own)):keysO (mapO T l)=keysO l:=by
 induction l with
 |nil=>rfl
 |cons p l ih =>
  obtain ⟨k,o⟩:=p
  cases o<;>simp only [mapO,keysO,List.map_cons] at ih ⊢<;>rw [ih]
theorem jr {T:List V→List V} {l:List (Nat×Own)} {k:Nat} {o:Own} (h:(k,o)∈mapO T l):∃ o0,(k,o0)∈l∧(match o0 with|.fix cs=>o=.fix (T cs)|.lit e sz n cs=>o=.lit e sz n (T cs)|_=>o=o0):=by
  induction l with
  |nil=>simp [mapO] at h
  |cons p l ih =>
    obtain ⟨k0,o0⟩:=p
    cases o0<;>simp only [mapO,List.mem_cons] at h<;>rcases h with h|h
    all_goals first
      | (simp only [Prod.mk.injEq] at h
         obtain ⟨rfl,rfl⟩:=h
         exact ⟨_,List.mem_cons_self,rfl⟩)
      | (obtain ⟨o1, h1, h2⟩ := ih h
         exact ⟨o1,List.mem_cons_of_mem _ h1,h2⟩)
theorem Aa.mapV {c:B3} {β:A6} {st:St} {a:Act} {w:World} (H:Aa c β st a w) {T:V→V} {TL:List V→List V} (hTL:∀ l,TL l=l.map T) (hun:T .un=.un)
  (hT:∀ u x,Ai β (Eo c.E0 β st.own) w u x→Ai β (Eo c.E0 β st.own) w u (T x)):Aa c β ⟨mapE T st.env,mapO TL st.own,st.nm⟩ a w:=by
 have hk:=fk TL st.own
 have hE:Eo c.E0 β (mapO TL st.own)=Eo c.E0 β st.own:=by unfold Eo;rw [hk]
 refine ⟨H.sz,H.df,λs=>?_,⟨λk o hm=>?_,by rw [hk];exact H.own.nodup,λk k' h1 h2=>H.own.apart k k' (hk▸h1) (hk▸h2),λk h1=>H.own.lt k (hk▸h1)⟩,λk h1=>H.fr k (hk▸h1),λk h1=>H.kn k (hk▸h1),H.nm,H.kp,H.fx⟩
 ·rw [hE]
  have:∀ (l:List (Nat×V)),get (mapE T l) s=T (get l s):=by
   intro l
   induction l with
   |nil=>simp [mapE,get,hun]
   |cons p l ih =>
    obtain ⟨s',y⟩:=p
    simp only [mapE,get]
    split
    ·rfl
    ·exact ih
  rw [this]
  exact hT _ _ (H.env s)
 ·rw [hE]
  obtain ⟨o0,h1,h2⟩:=jr hm
  have hok:=H.own.ok k o0 h1
  cases o0 with
  |fix cs =>
   simp only at h2;subst h2
   obtain ⟨b,arr,e,g1,g2,g3,g4⟩:=hok
   refine ⟨b,arr,e,g1,g2,by simpa [hTL] using g3,λj v x hv hx=>?_⟩
   rw [hTL,List.getElem?_map] at hx
   obtain ⟨y,hy,rfl⟩:=Option.map_eq_some_iff.1 hx
   exact hT _ _ (g4 j v y hv hy)
  |lit e sz n cs =>
   simp only at h2;subst h2
   obtain ⟨v0,xs,g1,g2,g3,g4⟩:=hok
   refine ⟨v0,xs,g1,g2,by simpa [hTL] using g3,λj v x hv hx=>?_⟩
   rw [hTL,List.getElem?_map] at hx
   obtain ⟨y,hy,rfl⟩:=Option.map_eq_some_iff.1 hx
   exact hT _ _ (g4 j v y hv hy)
  |row e sz n f=>simp only at h2;subst h2;exact hok
  |mp z g=>simp only at h2;subst h2;exact hok
  |lp z g=>simp only at h2;subst h2;exact hok
mutual
def shrV (k sz b k':Nat):V→V
 |.osub q s lo n=>if q=k∧s=sz∧lo=0∧n=b then .osl k' else .osub q s lo n
 |.ag cs=>.ag (shrL k sz b k' cs)
 |.tup cs=>.tup (shrL k sz b k' cs)
 |.un=>.un
 |.d y=>.d y
 |.mem cs=>.mem cs
 |.own q off=>.own q off
 |.osl q=>.osl q
 |.optr q s i off=>.optr q s i off
 |.fn f x y=>.fn f x y
 |.ifc t v=>.ifc t v
 |.gd c v=>.gd c v
def shrL (k sz b k':Nat):List V→List V
 |[]=>[]
 |v::l=>shrV k sz b k' v::shrL k sz b k' l
end
theorem Uu (k sz b k':Nat) (l:List V):shrL k sz b k' l=l.map (shrV k sz b k'):=by
 induction l with
 |nil=>rfl
 |cons v l ih=>simp [shrL,ih]
theorem Ai.shr {β:A6} {E:Nat→Prop} {w:World} {k sz b k':Nat} {v':Value} (hb:β k'=some v') (h1:v'.oneCell'=true) (hu:∀ u,Ai β E w u (.osub k sz 0 b)→u=v') {v:Value} {x:V} (h:Ai β E w v x):Ai β E w v (shrV k sz b k' x):=by
 induction h with
 |osub q s lo n b' m c a h hn ha =>
  simp only [shrV]
  split
  ·rename_i e
   obtain ⟨rfl,rfl,rfl,rfl⟩:=e
   have:=hu _ (.osub q s 0 n b' m c a h hn ha)
   rw [this]
   exact .osl _ _ hb h1
  ·exact .osub q s lo n b' m c a h hn ha
 |osub0 q s A h =>
  simp only [shrV]
  split
  ·rename_i e
   obtain ⟨rfl,rfl,-,rfl⟩:=e
   have:=hu _ (.osub0 q s A h)
   rw [this]
   exact .osl _ _ hb h1
  ·exact .osub0 q s A h
 |ag arr cs h1 r1 ih =>
  simp only [shrV,Uu]
  refine .ag _ _ (by simpa using h1) λj v y hv hy=>?_
  rw [List.getElem?_map] at hy
  obtain ⟨y0,hy0,rfl⟩:=Option.map_eq_some_iff.1 hy
  exact ih j v y0 hv hy0
 |tup arr cs h1 r1 ih =>
  simp only [shrV,Uu]
  refine .tup _ _ (by simpa using h1) λj v y hv hy=>?_
  rw [List.getElem?_map] at hy
  obtain ⟨y0,hy0,rfl⟩:=Option.map_eq_some_iff.1 hy
  exact ih j v y0 hv hy0
 |un v=>exact .un v
 |d v y h=>exact .d v y h
 |mem cs b off g hcell hrel=>exact .mem cs b off g hcell hrel
 |own q off b h=>exact .own q off b h
 |osl q v h h1=>exact .osl q v h h1
 |optr q s i off b m c h=>exact .optr q s i off b m c h
 |fn f fi ca first cap h1 h2 r1 r2 _ _=>exact .fn f fi ca first cap h1 h2 r1 r2
 |ifc t v y h _=>exact .ifc t v y h
 |gd c v y h h' _=>exact .gd c v y h h'
theorem Wk.shr {c:B3} {a:St} (k k' b:Nat) {e sz n:Nat} {f:Nat→List D} (ho:own? a.own k=some (.row e sz n f)) (hbn:b≤n) (hk:k'∉a.nm) :
  Wk c a ⟨mapE (shrV k sz b k') a.env,mapO (shrL k sz b k') (setO (delO a.own k) k' (.row e sz b f)),k'::a.nm⟩:=by
 intro β fr w H
 obtain ⟨v,xs,hv,hrow,hfl,hfr⟩:=Bb H ho
 have hmul:b*sz≤n*sz:=Nat.mul_le_mul_right _ hbn
 obtain ⟨v',hv',hone,hrow',hblk⟩:∃ v',(∀ (β':A6) E u,β' k=some v→Ai β' E w u (.osub k sz 0 b)→u=v')∧v'.oneCell'=true∧J2 w e sz v' b (xs.take (b*sz))∧B0 v'=B0 v:=by
  rcases hrow.2 with ⟨⟨A,rfl⟩,rfl⟩|⟨g,cap,cur,rfl,hc0,hh,hnc,hcm,hcs,htk⟩
  ·have:b=0:=by omega
   subst this
   refine ⟨.slice A 0 0,λβ' E u hb hu=>?_,rfl,⟨by simp,.inl ⟨⟨A,rfl⟩,rfl⟩⟩,rfl⟩
   cases hu with
   |osub _ _ _ _ b0 m c0 ad h1 h2 h3 =>
    rw [hb] at h1
    injection h1 with h1;injection h1 with h4 h5 h6
    subst h4;subst h6
    rw [h3 (.inr rfl)]
    simp
   |osub0 _ _ A' h1=>rw [hb] at h1;injection h1 with h1;injection h1 with h1;rw [h1]
  ·refine ⟨.slice (some ⟨g,0,none⟩) b cap,λβ' E u hb hu=>?_,rfl,⟨by rw [List.length_take,hrow.1];omega,.inr ⟨g,cap,cur,rfl,hc0,hh,by omega,hcm,hcs,?_⟩⟩,rfl⟩
   ·cases hu with
    |osub _ _ _ _ b0 m c0 ad h1 h2 h3 =>
     rw [hb] at h1
     injection h1 with h1;injection h1 with h4 h5 h6
     injection h4 with h4;injection h4 with h4
     subst h4;subst h6
     rw [h3 (.inr rfl)]
     simp
    |osub0 _ _ A' h1 =>
     rw [hb] at h1
     injection h1 with h1;injection h1 with h1 h2 h3
     omega
   ·rw [←htk,List.take_take,Nat.min_eq_left hmul]
 obtain ⟨β',hβ,hbd,H'⟩:=H.replOwn (w':=w) (k0:=k) (k:=k') (val:=v') (ow:=.row e sz b f) (Ab (Ah ho)) hk (Aw.refl _ w) (λx hx=>.inl (by simp only [A6.blk,hv,Option.bind_some];rw [←hblk];exact hx))
  (λβ' E' hβ hbd hl=>⟨v',_,hbd,hrow',λi hi=>hfl i (by omega),λi j hi hj x hx=>by
   obtain ⟨u,q1,q2⟩:=hfr i j (by omega) hj x hx
   refine ⟨u,?_,q2.lasts hl⟩
   have:(i+1)*sz≤b*sz:=Nat.mul_le_mul_right _ hi
   rw [Nat.add_mul] at this
   rw [List.getElem?_take,if_pos (by omega)];exact q1⟩)
 exact ⟨β',H'.mapV (Uu k sz b k') rfl (λu x hx=>hx.shr hbd hone (λu hu=>hv' β' _ u (hβ _ _ hv) hu))⟩
theorem Wk.row0F {c:B3} {a:St} (k j k' e sz:Nat) (f':Nat→List D) {cs:List V} {sz':Nat} {f:Nat→List D} (ho:own? a.own k=some (.fix cs)) (hj:cs[j]?=some (.d (.sl true sz' 0 f))) (hk:k'∉a.nm) :
  Wk c a ⟨a.env,setO (setO a.own k' (.row e sz 0 f')) k (.fix (putV cs j [.osl k'])),k'::a.nm⟩:=by
 intro β fr w H
 have hkk:=Ab (Ah ho)
 obtain ⟨b,arr,e0,hb,hh,hz,hr⟩:=Bb H ho
 have hjl:j<cs.length:=(List.getElem?_eq_some_iff.1 hj).1
 have hja:arr[j]?=some (arr[j]'(by omega)):=Array.getElem?_eq_getElem (by omega)
 generalize arr[j]'(by omega)=u at hja
 have hu:=J3 (hr j u _ hja hj)
 have hform:∃ A,u=.slice A 0 0:=by
  cases hu with
  |nil _ _ _ _=>exact ⟨_,rfl⟩
  |sl _ _ _ _ b off c g hc hf _ _ _=>have:=hf rfl;subst this;exact ⟨_,rfl⟩
 obtain ⟨A,rfl⟩:=hform
 obtain ⟨β',hβ,hbd,H'⟩:=H.addOwn (w':=w) (k:=k') (val:=.slice A 0 0) (ow:=.row e sz 0 f') (Aw.refl _ w) hk (λb hb=>by cases A<;>simp [B0] at hb)
  (λβ' E' _ hb _=>⟨_,[],hb,⟨by simp,.inl ⟨⟨A,rfl⟩,rfl⟩⟩,λi hi=>by omega,λi j hi=>by omega⟩)
 have hkn:k≠k':=λe=>hk (e▸H.kn k hkk)
 have ho':own? (setO a.own k' (.row e sz 0 f')) k=some (.fix cs):=by rw [Af,if_neg hkn];exact ho
 refine ⟨β',H'.updOwn (w':=w) (k:=k) (ow:=.fix (putV cs j [.osl k'])) (Ab (Ah ho')) (Aw.refl _ w) (λE' hl hE=>?_)⟩
 obtain ⟨b2,arr2,e2,hb2,hh2,hz2,hr2⟩:=Bb H' ho'
 have hbb:b2=b:=by
  have:=hβ _ _ hb
  rw [hb2] at this
  injection this with this;injection this with this;injection this with this;injection this
 subst hbb
 rw [hh] at hh2
 injection hh2 with hh2;injection hh2 with hh2 hh3
 subst hh2;subst hh3
 refine ⟨b2,arr,e0,hb2,hh,by rw [I7];exact hz,λj' v x hv hx=>?_⟩
 rw [Fm] at hx
 split at hx
 ·rename_i hc
  have:j'=j:=by simp at hc;omega
  subst this
  simp at hx
  rw [hja] at hv
  cases hv
  rw [←hx]
  exact .osl _ _ hbd rfl
 ·exact (hr2 j' v x hv hx).lasts hl (λ_ _=>rfl)
theorem OwnLe.of {a b:List (Nat×Own)} (h:∀ k o,(k,o)∈b→∃ o',own? a k=some o'∧Bf o' o):OwnLe a b:=by
 induction b with
 |nil=>trivial
 |cons p b ih =>
  obtain ⟨k,o⟩:=p
  exact ⟨h k o List.mem_cons_self,ih λk o hm=>h k o (List.mem_cons_of_mem _ hm)⟩
theorem Bf.rowLit {e sz n:Nat} {f:Nat→List D} {cs:List V} (hc:cs=catR n f):Bf (.row e sz n f) (.lit e sz n cs):=by
 subst hc
 rintro β E w k ⟨v,vs,h1,h2,h3,h4⟩
 refine ⟨v,vs,h1,h2,R4 h3,λj u y hu hy=>?_⟩
 obtain ⟨i,q,h5,h6,h7,z,h8,rfl⟩:=R6 h3 hy
 obtain ⟨u',h9,h10⟩:=h4 i q h5 h6 z h8
 rw [h7,h9] at hu
 cases hu
 exact .d _ _ h10
theorem Bi {a b:Nat} (l:List (Nat×Own)) (k:Nat):own? (renO (sw a b) l) k=(own? l (sw a b k)).map (Own.ren (sw a b)):=by
 induction l with
 |nil=>rfl
 |cons p l ih =>
  obtain ⟨k0,o⟩:=p
  simp only [renO,own?]
  by_cases h:k0=sw a b k
  ·have:sw a b k0=k:=by rw [h,J4]
   rw [if_pos h,if_pos this];rfl
  ·have:¬ sw a b k0=k:=λe=>h (by rw [←e,J4])
   rw [if_neg h,if_neg this,ih]
theorem Wk.rn {c:B3} {st b:St} (x y:Nat) (fn:List Nat) (hfn:c.fn=fn) (hx:x∉fn) (hy:y∉fn) (he:EnvLe (renE (Go.Bx.sw x y) st.env) b.env) (ho:∀ k o,(k,o)∈b.own→∃ o',own? st.own (Go.Bx.sw x y k)=some o'∧Bf (o'.ren (Go.Bx.sw x y)) o)
  (hnd:(keysO b.own).Nodup) (hk:∀ k,k∈keysO b.own→k∈b.nm) (hfx:∀ k,k∈fn→k∈b.nm) (hv:∀ s y,(s,y)∈b.env→∀ k,k∈y.names→k∈b.nm) (hov:∀ k o,(k,o)∈b.own→∀ j,j∈(match o with|.fix cs=>A5 cs|.lit _ _ _ cs=>A5 cs|.row _ _ _ _=>[]|.mp _ _=>[]|.lp _ _=>[])→j∈b.nm):Wk c st b:=
 (Wk.sw x y fn hfn hx hy).trans (Wk.mk he (OwnLe.of λk o hm=>by
  obtain ⟨o',h1,h2⟩:=ho k o hm
  exact ⟨_,by rw [Bi,h1];rfl,h2⟩) hnd hk (λk h=>hfx k (hfn▸h)) hv hov)
section
variable {X:Type} (dx:X) (cells:X→List D)
variable {dx cells}
end
end Go.Bx
end
section
namespace Go.Bx
open Go.RowKit
section
variable {c:B3} {b:Bool} {is:List I} {st:St} {acc:List Lg} {K:List Lg→St→Prop}
theorem Lx {i:I} {v:V} {ins:List (Nat×Own)} {rd:List Nat} (h:D0 c i st { val:=v,upd:=callU ins ins,rd:=rd,new:=[] }) (hin:∀ k o,(k,o)∈ins→own? st.own k=some o) (hrd:∀ k,k∈keysO ins→k∈rd) (hnd:(keysO ins).Nodup) :
  D0 c i st { val:=v,upd:=[],rd:=rd,new:=[] }:=by
 intro st1 h1 h2 h3 ops o hc β a w H Q K hK
 refine h st1 h1 h2 h3 ops o hc β a w H Q K (λβ' a' w' H'=>hK β' a' w' ?_)
 have B7:∀ k o,(k,o)∈ins→own? st1.own k=some o:=λk o hm=>by rw [h2 k (hrd k (Ab hm))];exact hin k o hm
 refine H'.ext ⟨λs=>rfl,λk=>?_,λk=>?_⟩ H.own.nodup
 ·simp only [St.stp,applyU]
  rw [Kh H.own.nodup hnd]
  cases hk:own? ins k with
  |some o=>exact (B7 k o (Ah hk)).symm
  |none =>
   rw [if_neg (λhm=>by obtain ⟨o,ho⟩:=Dh.1 hm;rw [hk] at ho;cases ho)]
 ·simp only [St.stp,newN,F2]
  constructor
  ·rintro (h|⟨o,h⟩)
   ·exact h
   ·unfold callU at h
    rw [List.mem_append] at h
    rcases h with h|h
    ·obtain ⟨p,_,hp⟩:=List.mem_map.1 h;cases hp
    ·obtain ⟨p,hp,e⟩:=List.mem_map.1 h
     cases e
     exact H.kn _ (Ab (Ah (B7 p.1 p.2 hp)))
  ·exact .inl
theorem Rm {d:Option Nat} {s:Nat} {want gc:Bool} {q:O} {res:V} {rd:List Nat} (hg:gOf st.env s want=some gc) (h:gc=true→D0 c ⟨d,none,q⟩ st { val:=res,upd:=[],rd:=rd,new:=[] }) :
  D0 c ⟨d,some (s,want),q⟩ st { val:=.gd gc res,upd:=[],rd:=rd,new:=[] }:=by
 intro st1 h1 h2 h3 ops o hc β a w H Q K hK
 cases gc with
 |true =>
  refine K7 hg (h rfl) st1 h1 h2 h3 ops o hc β a w H Q K (λβ' a' w' H'=>hK β' a' w' ?_)
  simp only [St.stp,applyU,newN] at H' ⊢
  cases d with
  |none=>exact H'
  |some d' =>
   simp only [setE] at H' ⊢
   refine ⟨H'.sz,H'.df,λs'=>?_,H'.own,H'.fr,H'.kn,H'.nm,H'.kp,H'.fx⟩
   have h5:=H'.env s'
   simp only [Go.Bx.get] at h5 ⊢
   split
   ·rename_i e
    rw [if_pos e] at h5
    exact .gd _ _ _ (λ_=>h5) (λh=>by cases h)
   ·rename_i e
    rw [if_neg e] at h5
    exact h5
 |false =>
  obtain ⟨j,hgo,hj⟩:=K2 hc
  have hw:=Gj H hgo hj (by rw [Hp h1];exact hg)
  rw [if_neg (by rw [hw];simp)]
  have hdst:=hc.dst
  simp only at hdst
  refine hK β _ w ?_
  rw [hdst]
  simp only [St.stp,applyU,newN]
  cases d with
  |none=>exact H
  |some d'=>exact H.setV (hc.lt d' rfl) (.gd _ _ _ (λh=>by cases h) (λ_=>rfl))
theorem TR.keep {d:Option Nat} {q:O} (rd:List Nat) (res:V) (hv:D0 c ⟨d,none,q⟩ st { val:=res,upd:=[],rd:=rd,new:=[] })
  (h:El c b is (st.stp d { val:=res,upd:=[],rd:=rd,new:=[] }) (lgs b acc ⟨rd,[]⟩) K):TR c b (⟨d,none,q⟩::is) st acc K:=
 TR.cons { val:=res,upd:=[],rd:=rd,new:=[] } hv (λk hk=>by simp at hk) (C1 h)
theorem TR.gkeep {d:Option Nat} {s:Nat} {want gc:Bool} {q:O} (rd:List Nat) (res:V) (hg:gOf st.env s want=some gc) (hv:gc=true→D0 c ⟨d,none,q⟩ st { val:=res,upd:=[],rd:=rd,new:=[] })
  (h:El c b is (st.stp d { val:=.gd gc res,upd:=[],rd:=rd,new:=[] }) (lgs b acc ⟨rd,[]⟩) K):TR c b (⟨d,some (s,want),q⟩::is) st acc K:=
 TR.cons { val:=.gd gc res,upd:=[],rd:=rd,new:=[] } (Rm hg hv) (λk hk=>by simp at hk) (C1 h)
theorem B7 {own:List (Nat×Own)} {k:Nat} {o:Own} (h:own? own k=some o):∀ k' o',(k',o')∈[(k,o)]→own? own k'=some o':=λk' o' hm=>by
 simp at hm;obtain ⟨rfl,rfl⟩:=hm;exact h
theorem th {own:List (Nat×Own)} {k1 k2:Nat} {o1 o2:Own} (h1:own? own k1=some o1) (h2:own? own k2=some o2):∀ k' o',(k',o')∈[(k1,o1),(k2,o2)]→own? own k'=some o':=λk' o' hm=>by
 simp at hm
 rcases hm with ⟨rfl,rfl⟩|⟨rfl,rfl⟩
 ·exact h1
 ·exact h2
theorem Pg {P:Program} (hP:c.P=P) {d:Option Nat} {name:String} {x:X} {t e:TypeId} {k off sz:Nat} {agg:Bool} {cs:List V} {f:Nat} {xs:List X} {r:Nat} {o:Own} {res:V} (hx:evV st x=.ifc t (.own k off)) (hm:Ss P t name=some (f,false)) (ht:P.underlying t=some (.pointer e))
  (hz:Hm P e=some sz) (hag:Hl P e=some agg) (h1z:agg=false→sz=1) (hko:own? st.own k=some (.fix cs)) (hlt:off+sz≤cs.length)
  (hS:Aj P f (cut agg cs off sz::evVs st xs) [(r,o)] res [(r,o)] []) (hsx:evS true st x) (hs:evSs true st xs) (hr:own? st.own r=some o) :
  D0 c ⟨d,none,.ivk name x xs⟩ st { val:=res,upd:=[],rd:=[k,r],new:=[] }:=
 Lx (ins:=[(r,o)]) (rd:=[k,r]) (Sn hx (by rw [hP];exact hm) (by rw [hP];exact ht) (by rw [hP];exact hz) (by rw [hP];exact hag) h1z hko hlt (by rw [hP];exact hS) hsx hs (B7 hr) (by simp [keysO])) (B7 hr) (λk hk=>by simp [keysO] at hk;simp [hk]) (by simp [keysO])
end
def Ph (s:Nat→Nat) (a:List (Nat×Own)):List (Nat×Own)→Prop
 |[]=>True
 |(k,o)::l=>(∃ o',own? a (s k)=some o'∧Bf (o'.ren s) o)∧Ph s a l
theorem Ph.get {s:Nat→Nat} {a:List (Nat×Own)}:∀ {b:List (Nat×Own)},Ph s a b→∀ k o,(k,o)∈b→∃ o',own? a (s k)=some o'∧Bf (o'.ren s) o
 |[],_,k,o,h=>by simp at h
 |(k',o')::l,h,k,o,hm=>by
  rcases List.mem_cons.1 hm with hm|hm
  ·simp at hm;obtain ⟨rfl,rfl⟩:=hm;exact h.1
  ·exact Ph.get h.2 k o hm
theorem Kd (a b:List (Nat×Own)):keysO (a++b)=keysO a++keysO b:=by simp [keysO]
end Go.Bx
end
section
namespace Go.Bx
set_option maxRecDepth 10000
set_option linter.defProp false
theorem vcl :
 (∀ a,isCall (.mov a)=false) ∧
 (∀ a,makes (.mov a)=false) ∧
 (∀ a b c,isCall (.pick a b c)=false) ∧
 (∀ a b c,makes (.pick a b c)=false) ∧
 (∀ a b,isCall (.alloc a b)=false) ∧
 (∀ a b,isCall (.box a b)=false) ∧
 (∀ a b,isCall (.build a b)=false) ∧
 (∀ a b,makes (.build a b)=false) ∧
 (∀ a b c d,isCall (.bslice a b c d)=false) ∧
 (∀ a b c,isCall (.load a b c)=false) ∧
 (∀ a b c,makes (.load a b c)=false) ∧
 (∀ a b c,isCall (.store a b c)=false) ∧
 (∀ a b c,makes (.store a b c)=false) ∧
 (∀ a b c,isCall (.bin a b c)=false) ∧
 (∀ a b c,makes (.bin a b c)=false) ∧
 (∀ a b c,isCall (.beq a b c)=false) ∧
 (∀ a b c,makes (.beq a b c)=false) ∧
 (∀ a b c d e,isCall (.eqa a b c d e)=false) ∧
 (∀ a b c d e,makes (.eqa a b c d e)=false) ∧
 (∀ a b,isCall (.isnil a b)=false) ∧
 (∀ a b,makes (.isnil a b)=false) ∧
 (∀ a b c,isCall (.shf a b c)=false) ∧
 (∀ a b c,makes (.shf a b c)=false) ∧
 (∀ a b,isCall (.inv a b)=false) ∧
 (∀ a b,makes (.inv a b)=false) ∧
 (∀ a b,isCall (.conv a b)=false) ∧
 (∀ a b,makes (.conv a b)=false) ∧
 (∀ a b c d,isCall (.fld a b c d)=false) ∧
 (∀ a b c d,makes (.fld a b c d)=false) ∧
 (∀ a b,isCall (.fadr a b)=false) ∧
 (∀ a b,makes (.fadr a b)=false) ∧
 (∀ a,isCall (.nilc a)=false) ∧
 (∀ a,makes (.nilc a)=false) ∧
 (∀ a b c,isCall (.iadr a b c)=false) ∧
 (∀ a b c,makes (.iadr a b c)=false) ∧
 (∀ a b c d,isCall (.aadr a b c d)=false) ∧
 (∀ a b c d,makes (.aadr a b c d)=false) ∧
 (∀ a b c d e,isCall (.idx a b c d e)=false) ∧
 (∀ a b c d e,makes (.idx a b c d e)=false) ∧
 (∀ a b,isCall (.sidx a b)=false) ∧
 (∀ a b,makes (.sidx a b)=false) ∧
 (∀ a b,isCall (.ext a b)=false) ∧
 (∀ a b,makes (.ext a b)=false) ∧
 (∀ a,isCall (.len a)=false) ∧
 (∀ a,makes (.len a)=false) ∧
 (∀ a b c,isCall (.mkfn a b c)=false) ∧
 (∀ a b c,makes (.mkfn a b c)=false) ∧
 (∀ a b c,isCall (.mm a b c)=false) ∧
 (∀ a b c,makes (.mm a b c)=false) ∧
 (∀ a b c d e f,isCall (.mks a b c d e f)=false) ∧
 (∀ a b c d e,isCall (.slc a b c d e)=false) ∧
 (∀ a b c d e,makes (.slc a b c d e)=false) ∧
 (∀ a b c,makes (.asl a b c)=false) ∧
 (∀ a b c,isCall (.cpy a b c)=false) ∧
 (∀ a b c,makes (.cpy a b c)=false) ∧
 (∀ a b c d e,isCall (.app a b c d e)=false) ∧
 (∀ a b,isCall (.mkifc a b)=false) ∧
 (∀ a b,makes (.mkifc a b)=false) ∧
 (∀ a b c,isCall (.tas a b c)=false) ∧
 (∀ a b c,makes (.tas a b c)=false) ∧
 (∀ a,isCall (.mkmap a)=false) ∧
 (∀ a b c,isCall (.lkp a b c)=false) ∧
 (∀ a b c,makes (.lkp a b c)=false) ∧
 (∀ a b c,isCall (.mup a b c)=false) ∧
 (∀ a b c,makes (.mup a b c)=false) ∧
 (isCall .never=false) ∧
 (makes .never=false) ∧
 (∀ a,isCall (.cap a)=false) ∧
 (∀ a,makes (.cap a)=false) ∧
 (∀ a b c d e f,isCall (.apz a b c d e f)=false) ∧
 (∀ a b c,makes (.ivk a b c)=false) ∧
 (∀ a b,makes (.call a b)=false) ∧
 (∀ a b,makes (.callv a b)=false) ∧
 (∀ l,toDs (.un::l)=none) ∧
 (∀ a,isCell (.d a)=true) ∧
 (∀ a,cellsV (.d a)=some [(.d a)]) ∧
 (∀ a,isCell (.mem a)=true) ∧
 (∀ a,cellsV (.mem a)=some [(.mem a)]) ∧
 (∀ a l,toDs ((.mem a)::l)=none) ∧
 (∀ a b,isCell (.own a b)=true) ∧
 (∀ a b,cellsV (.own a b)=some [(.own a b)]) ∧
 (∀ a b l,toDs ((.own a b)::l)=none) ∧
 (∀ a,isCell (.osl a)=true) ∧
 (∀ a,cellsV (.osl a)=some [(.osl a)]) ∧
 (∀ a l,toDs ((.osl a)::l)=none) ∧
 (∀ a b c d,isCell (.osub a b c d)=true) ∧
 (∀ a b c d,cellsV (.osub a b c d)=some [(.osub a b c d)]) ∧
 (∀ a b c d l,toDs ((.osub a b c d)::l)=none) ∧
 (∀ a b c d,isCell (.optr a b c d)=true) ∧
 (∀ a b c d,cellsV (.optr a b c d)=some [(.optr a b c d)]) ∧
 (∀ a b c d l,toDs ((.optr a b c d)::l)=none) ∧
 (∀ a b c,isCell (.fn a b c)=true) ∧
 (∀ a b c,cellsV (.fn a b c)=some [(.fn a b c)]) ∧
 (∀ a b c l,toDs ((.fn a b c)::l)=none) ∧
 (∀ a b,isCell (.ifc a b)=true) ∧
 (∀ a b,cellsV (.ifc a b)=some [(.ifc a b)]) ∧
 (∀ a b l,toDs ((.ifc a b)::l)=none) ∧
 (∀ a l,toDs ((.ag a)::l)=none) ∧
 (∀ a l,toDs ((.tup a)::l)=none) ∧
 (∀ a b l,toDs ((.gd a b)::l)=none) ∧
 (∀ n,dropV [] (n+1)=[]) ∧
 (∀ n,takeV [] (n+1)=[]) ∧
 (∀ n,dropD [] (n+1)=[]) ∧
 (∀ n,takeDV [] (n+1)=[]) ∧
 (∀ v l n,putV (v::l) n []=v::l) ∧
 (∀ v l n y ys,putV (v::l) (n+1) (y::ys)=v::putV l n (y::ys)) ∧
 (∀ st p d x,opR st p d (.inv .not x)=match evV st x with|.d (.bool a)=>{ side:=evS p st x,val:=.d (.bool (!a)) }|_=>.bad) ∧
 (∀ st p d x,opR st p d (.inv .neg x)=match evV st x with|.d (.int k a)=>{ side:=evS p st x,val:=.d (.int k (k.wrap (0-a))) }|_=>.bad):=
 ⟨λ_=>rfl,λ_=>rfl,λ_ _ _=>rfl,λ_ _ _=>rfl,λ_ _=>rfl,λ_ _=>rfl,λ_ _=>rfl,λ_ _=>rfl,λ_ _ _ _=>rfl,λ_ _ _=>rfl,λ_ _ _=>rfl,λ_ _ _=>rfl,λ_ _ _=>rfl,λ_ _ _=>rfl,λ_ _ _=>rfl,λ_ _ _=>rfl,λ_ _ _=>rfl,λ_ _ _ _ _=>rfl,λ_ _ _ _ _=>rfl,λ_ _=>rfl,λ_ _=>rfl,λ_ _ _=>rfl,λ_ _ _=>rfl,λ_ _=>rfl,λ_ _=>rfl,λ_ _=>rfl,λ_ _=>rfl,λ_ _ _ _=>rfl,λ_ _ _ _=>rfl,λ_ _=>rfl,λ_ _=>rfl,λ_=>rfl,λ_=>rfl,λ_ _ _=>rfl,λ_ _ _=>rfl,λ_ _ _ _=>rfl,λ_ _ _ _=>rfl,λ_ _ _ _ _=>rfl,λ_ _ _ _ _=>rfl,λ_ _=>rfl,λ_ _=>rfl,λ_ _=>rfl,λ_ _=>rfl,λ_=>rfl,λ_=>rfl,λ_ _ _=>rfl,λ_ _ _=>rfl,λ_ _ _=>rfl,λ_ _ _=>rfl,λ_ _ _ _ _ _=>rfl,λ_ _ _ _ _=>rfl,λ_ _ _ _ _=>rfl,λ_ _ _=>rfl,λ_ _ _=>rfl,λ_ _ _=>rfl,λ_ _ _ _ _=>rfl,λ_ _=>rfl,λ_ _=>rfl,λ_ _ _=>rfl,λ_ _ _=>rfl,λ_=>rfl,λ_ _ _=>rfl,λ_ _ _=>rfl,λ_ _ _=>rfl,λ_ _ _=>rfl,rfl,rfl,λ_=>rfl,λ_=>rfl,λ_ _ _ _ _ _=>rfl,λ_ _ _=>rfl,λ_ _=>rfl,λ_ _=>rfl,λ_=>rfl,λ_=>rfl,λ_=>rfl,λ_=>rfl,λ_=>rfl,λ_ _=>rfl,λ_ _=>rfl,λ_ _=>rfl,λ_ _ _=>rfl,λ_=>rfl,λ_=>rfl,λ_ _=>rfl,λ_ _ _ _=>rfl,λ_ _ _ _=>rfl,λ_ _ _ _ _=>rfl,λ_ _ _ _=>rfl,λ_ _ _ _=>rfl,λ_ _ _ _ _=>rfl,λ_ _ _=>rfl,λ_ _ _=>rfl,λ_ _ _ _=>rfl,λ_ _=>rfl,λ_ _=>rfl,λ_ _ _=>rfl,λ_ _=>rfl,λ_ _=>rfl,λ_ _ _=>rfl,λ_=>rfl,λ_=>rfl,λ_=>rfl,λ_=>rfl,λ_ _ _=>rfl,λ_ _ _ _ _=>rfl,λst p d x=>by cases h:evV st x with|d y=>(cases y<;>simp [opR,h])|_=>simp [opR,h],λst p d x=>by cases h:evV st x with|d y=>(cases y<;>simp [opR,h])|_=>simp [opR,h]⟩
theorem enl :
 (VsLe [] []=True) ∧
 (∀ x xs y ys,VsLe (x::xs) (y::ys)=(Ag x y∧VsLe xs ys)) ∧
 (∀ x xs,VsLe (x::xs) []=False) ∧
 (∀ x xs,VsLe [] (x::xs)=False):=
 ⟨rfl,λ_ _ _ _=>rfl,λ_ _=>rfl,λ_ _=>rfl⟩
theorem rsl :
 (∀ st r,retV st [r]=resV st r) ∧
 (∀ st,retV st []=.tup (ressV st [])) ∧
 (∀ st r r2 l,retV st (r::r2::l)=.tup (ressV st (r::r2::l))):=
 ⟨λ_ _=>rfl,λ_=>rfl,λ_ _ _ _=>rfl⟩
def vcb:=
 And.intro vcl
 (And.intro
 (And.intro
 (And.intro
 (And.intro
 (And.intro
 (And.intro
 (And.intro
 (And.intro (@Go.Bx.vcC_seq) (@Go.Bx.vcC_reg))
 (And.intro (@Go.Bx.vcC_drw)
 (And.intro (@Go.Bx.vcC_skip) (@Go.Bx.vcC_cond))))
 (And.intro
 (And.intro (@Go.Bx.vcC_block) (@Go.Bx.vcC_exit))
 (And.intro (@Go.Bx.vcC_ret)
 (And.intro (@Go.Bx.vcC_bad) (@Go.Bx.seqK_nrm)))))
 (And.intro
 (And.intro
 (And.intro (@Go.Bx.seqK_exit) (@Go.Bx.seqK_ret))
 (And.intro (@Go.Bx.blkK_nrm)
 (And.intro (@Go.Bx.blkK_exit) (@Go.Bx.blkK_ret))))
 (And.intro
 (And.intro (@Go.Bx.lopK_exit)
 (And.intro (@Go.Bx.lopK_ret) (@Go.Bx.lopX_exit)))
 (And.intro (@Go.Bx.lopX_ret)
 (And.intro (@Go.Bx.jmpK_nrm) (@Go.Bx.jmpK_exit))))))
 (And.intro
 (And.intro
 (And.intro
 (And.intro (@Go.Bx.jmpK_ret) (@Go.Bx.nrmK_app))
 (And.intro (@Go.Bx.drwK_app)
 (And.intro (@Go.Bx.initE.eq_1) (@Go.Bx.initE.eq_2))))
 (And.intro
 (And.intro (@Go.Bx.vcR_nil)
 (And.intro (@Go.Bx.vcR_n) (@Go.Bx.vcR_s)))
 (And.intro (@Go.Bx.isCall.eq_1)
 (And.intro (@Go.Bx.isCall.eq_2) (@Go.Bx.isCall.eq_3)))))
 (And.intro
 (And.intro
 (And.intro (@Go.Bx.isCall.eq_4) (@Go.Bx.makes.eq_1))
 (And.intro (@Go.Bx.makes.eq_2)
 (And.intro (@Go.Bx.makes.eq_3) (@Go.Bx.makes.eq_4))))
 (And.intro
 (And.intro (@Go.Bx.makes.eq_5)
 (And.intro (@Go.Bx.makes.eq_6) (@Go.Bx.makes.eq_7)))
 (And.intro (@Go.Bx.hasU.eq_1)
 (And.intro (@Go.Bx.hasU.eq_2) (@Go.Bx.slK.eq_1)))))))
 (And.intro
 (And.intro
 (And.intro
 (And.intro
 (And.intro (@Go.Bx.newOf.eq_1) (@Go.Bx.opR.eq_1))
 (And.intro (@Go.Bx.opR.eq_2)
 (And.intro (@Go.Bx.opR.eq_3) (@Go.Bx.opR.eq_4))))
 (And.intro
 (And.intro (@Go.Bx.opR.eq_5) (@Go.Bx.opR.eq_6))
 (And.intro (@Go.Bx.opR.eq_7)
 (And.intro (@Go.Bx.opR.eq_8) (@Go.Bx.opR.eq_9)))))
 (And.intro
 (And.intro
 (And.intro (@Go.Bx.opR.eq_10) (@Go.Bx.opR.eq_11))
 (And.intro (@Go.Bx.opR.eq_12)
 (And.intro (@Go.Bx.opR.eq_13) (@Go.Bx.opR.eq_17))))
 (And.intro
 (And.intro (@Go.Bx.opR.eq_18)
 (And.intro (@Go.Bx.opR.eq_19) (@Go.Bx.opR.eq_20)))
 (And.intro (@Go.Bx.opR.eq_21)
 (And.intro (@Go.Bx.opR.eq_22) (@Go.Bx.opR.eq_23))))))
 (And.intro
 (And.intro
 (And.intro
 (And.intro (@Go.Bx.opR.eq_24) (@Go.Bx.opR.eq_25))
 (And.intro (@Go.Bx.opR.eq_26)
 (And.intro (@Go.Bx.opR.eq_27) (@Go.Bx.opR.eq_28))))
 (And.intro
 (And.intro (@Go.Bx.opR.eq_29)
 (And.intro (@Go.Bx.opR.eq_30) (@Go.Bx.opR.eq_31)))
 (And.intro (@Go.Bx.opR.eq_32)
 (And.intro (@Go.Bx.opR.eq_33) (@Go.Bx.opR.eq_34)))))
 (And.intro
 (And.intro
 (And.intro (@Go.Bx.opR.eq_35) (@Go.Bx.opR.eq_36))
 (And.intro (@Go.Bx.opR.eq_37)
 (And.intro (@Go.Bx.opR.eq_38) (@Go.Bx.opR.eq_39))))
 (And.intro
 (And.intro (@Go.Bx.opR.eq_40)
 (And.intro (@Go.Bx.opR.eq_41) (@Go.Bx.opR.eq_42)))
 (And.intro (@Go.Bx.opR.eq_43)
 (And.intro (And.intro (@Go.Bx.opR.eq_44) (@Go.Bx.opR.eq_45)) (@Go.Bx.binI.eq_1))))))))
 (And.intro
 (And.intro
 (And.intro
 (And.intro
 (And.intro
 (And.intro (@Go.Bx.binI.eq_2) (@Go.Bx.binI.eq_3))
 (And.intro (@Go.Bx.binI.eq_4)
 (And.intro (@Go.Bx.binI.eq_5) (@Go.Bx.binI.eq_6))))
 (And.intro
 (And.intro (@Go.Bx.binI.eq_7) (@Go.Bx.binI.eq_8))
 (And.intro (@Go.Bx.binI.eq_9)
 (And.intro (@Go.Bx.binI.eq_10) (@Go.Bx.binI.eq_11)))))
 (And.intro
 (And.intro
 (And.intro (@Go.Bx.binI.eq_12) (@Go.Bx.binI.eq_13))
 (And.intro (@Go.Bx.pickV.eq_1)
 (And.intro (@Go.Bx.pickV.eq_2) (@Go.Bx.evS.eq_1))))
 (And.intro
 (And.intro (@Go.Bx.evV.eq_1)
 (And.intro (@Go.Bx.evX.eq_1) (@Go.Bx.evX.eq_2)))
 (And.intro (@Go.Bx.evSs.eq_1)
 (And.intro (@Go.Bx.evSs.eq_2) (@Go.Bx.evVs.eq_1))))))
 (And.intro
 (And.intro
 (And.intro
 (And.intro (@Go.Bx.evVs.eq_2) (@Go.Bx.evParts.eq_1))
 (And.intro (@Go.Bx.evParts.eq_2)
 (And.intro (@Go.Bx.evPartsS.eq_1) (@Go.Bx.evPartsS.eq_2))))
 (And.intro
 (And.intro (@Go.Bx.fillV.eq_1)
 (And.intro (@Go.Bx.fillV.eq_2) (@Go.Bx.catV.eq_1)))
 (And.intro (@Go.Bx.catV.eq_2)
 (And.intro (@Go.Bx.gOf.eq_1) (@Go.Bx.get.eq_1)))))
 (And.intro
 (And.intro
 (And.intro (@Go.Bx.get.eq_2) (@Go.Bx.own?.eq_1))
 (And.intro (@Go.Bx.own?.eq_2)
 (And.intro (@Go.Bx.cellsV.eq_1) (@Go.Bx.cellsV.eq_2))))
 (And.intro
 (And.intro (@Go.Bx.cellsV.eq_3)
 (And.intro (@Go.Bx.cellsV.eq_4) (@Go.Bx.isCell.eq_1)))
 (And.intro (@Go.Bx.isCell.eq_2)
 (And.intro (@Go.Bx.isCell.eq_3) (@Go.Bx.isCell.eq_4)))))))
 (And.intro
 (And.intro
 (And.intro
 (And.intro
 (And.intro (@Go.Bx.cut.eq_1) (@Go.Bx.cutD.eq_1))
 (And.intro (@Go.Bx.nth.eq_1)
 (And.intro (@Go.Bx.nth.eq_2) (@Go.Bx.nth.eq_3))))
 (And.intro
 (And.intro (@Go.Bx.nthD.eq_1) (@Go.Bx.nthD.eq_2))
 (And.intro (@Go.Bx.nthD.eq_3)
 (And.intro (@Go.Bx.dropV.eq_1) (@Go.Bx.dropV.eq_3)))))
 (And.intro
 (And.intro
 (And.intro (@Go.Bx.takeV.eq_1) (@Go.Bx.takeV.eq_3))
 (And.intro (@Go.Bx.dropD.eq_1)
 (And.intro (@Go.Bx.dropD.eq_3) (@Go.Bx.takeDV.eq_1))))
 (And.intro
 (And.intro (@Go.Bx.takeDV.eq_3)
 (And.intro (@Go.Bx.putV.eq_1) (@Go.Bx.putV.eq_3)))
 (And.intro (@Go.Bx.toDs.eq_1)
 (And.intro (@Go.Bx.toDs.eq_2) (@Go.Bx.St.stp.eq_1))))))
 (And.intro
 (And.intro
 (And.intro
 (And.intro (@Go.Bx.Ef.stp.eq_1) (@Go.Bx.Stp.lg.eq_1))
 (And.intro (@Go.Bx.lgs.eq_1)
 (And.intro (@Go.Bx.setE.eq_1) (@Go.Bx.setE.eq_2))))
 (And.intro
 (And.intro (@Go.Bx.applyU.eq_1)
 (And.intro (@Go.Bx.applyU.eq_2) (@Go.Bx.applyU.eq_3)))
 (And.intro (@Go.Bx.setO.eq_1)
 (And.intro (@Go.Bx.setO.eq_2) (@Go.Bx.delO.eq_1)))))
 (And.intro
 (And.intro
 (And.intro (@Go.Bx.delO.eq_2) (@Go.Bx.newN.eq_1))
 (And.intro (@Go.Bx.newN.eq_2)
 (And.intro (@Go.Bx.newN.eq_3) (@Go.Bx.keysO.eq_1))))
 (And.intro
 (And.intro (@Go.Bx.callU.eq_1)
 (And.intro (@Go.Bx.Ef.bad.eq_1) (@Option.getD_some.{0})))
 (And.intro (@Option.getD_none.{0})
 (And.intro (@Option.map_some.{0,0}) (@Option.map_none.{0,0})))))))))
 (And.intro
 (And.intro
 (And.intro
 (And.intro
 (And.intro
 (And.intro
 (And.intro (@List.all_cons.{0}) (@List.all_nil.{0}))
 (And.intro (@List.map_cons.{0,0})
 (And.intro (@List.map_nil.{0,0}) (@List.append_nil.{0}))))
 (And.intro
 (And.intro (@List.nil_append.{0}) (@List.cons_append.{0}))
 (And.intro (@List.length_cons.{0})
 (And.intro (@List.length_nil.{0}) (@List.mem_cons.{0})))))
 (And.intro
 (And.intro
 (And.intro (@List.not_mem_nil.{0}) (@Bool.and_true))
 (And.intro (@Bool.true_and)
 (And.intro (@Bool.and_self) (@Bool.not_true))))
 (And.intro
 (And.intro (@Bool.not_false)
 (And.intro (@Bool.or_self) (@Bool.or_false)))
 (And.intro (@Bool.false_or)
 (And.intro (@Bool.false_eq_true) (@Bool.true_eq_false))))))
 (And.intro
 (And.intro
 (And.intro
 (And.intro (@Bool.cond_true_left) (@Bool.cond_false_right))
 (And.intro (@cond_true.{1})
 (And.intro (@cond_true.{0}) (@cond_false.{1}))))
 (And.intro
 (And.intro (@cond_false.{0})
 (And.intro (@if_true.{1}) (@if_true.{0})))
 (And.intro (@if_false.{1})
 (And.intro (@if_false.{0}) (@true_and)))))
 (And.intro
 (And.intro
 (And.intro (@and_true) (@and_self))
 (And.intro (@false_and)
 (And.intro (@and_false) (@or_false))))
 (And.intro
 (And.intro (@false_or)
 (And.intro (@not_false_eq_true) (@not_true_eq_false)))
 (And.intro (@forall_const.{1})
 (And.intro (@forall_const.{0}) (@true_implies)))))))
 (And.intro
 (And.intro
 (And.intro
 (And.intro
 (And.intro (@false_implies) (@implies_true.{1}))
 (And.intro (@implies_true.{0})
 (And.intro (@imp_self) (@eq_self.{1}))))
 (And.intro
 (And.intro (@eq_self.{0}) (@ne_eq.{1}))
 (And.intro (@ne_eq.{0})
 (And.intro (@Nat.zero_add) (@Nat.add_zero)))))
 (And.intro
 (And.intro
 (And.intro (@Nat.le_refl) (@Nat.succ_ne_self))
 (And.intro (@Nat.one_ne_zero)
 (And.intro (@Nat.zero_ne_one) (@Int.toNat_natCast))))
 (And.intro
 (And.intro (@Go.Bx.litRow.eq_1)
 (And.intro (@List.drop_succ_cons.{0}) (@List.drop_zero.{0})))
 (And.intro (@List.take_succ_cons.{0})
 (And.intro (@List.take_zero.{0}) (@Go.Bx.pubE.eq_1))))))
 (And.intro
 (And.intro
 (And.intro
 (And.intro (@Go.Bx.pubE.eq_2) (@Go.Bx.pubV.eq_1))
 (And.intro (@Go.Bx.pubV.eq_2)
 (And.intro (@Go.Bx.pubV.eq_3) (@Go.Bx.pubV.eq_4))))
 (And.intro
 (And.intro (@Go.Bx.pubV.eq_5)
 (And.intro (@Go.Bx.pubV.eq_6) (@Go.Bx.pubV.eq_7)))
 (And.intro (@Go.Bx.pubV.eq_8)
 (And.intro (@Go.Bx.pubV.eq_9) (@Go.Bx.pubV.eq_10)))))
 (And.intro
 (And.intro
 (And.intro (@Go.Bx.pubV.eq_11) (@Go.Bx.pubV.eq_12))
 (And.intro (@Go.Bx.pubL.eq_1)
 (And.intro (@Go.Bx.pubL.eq_2) (@Go.Bx.pubO.eq_1))))
 (And.intro
 (And.intro (@Go.Bx.pubO.eq_2)
 (And.intro (@Go.Bx.pubO.eq_3) (@Go.Bx.pubO.eq_4)))
 (And.intro (@Go.Bx.pubO.eq_5)
 (And.intro (@Go.Bx.pubFE.eq_1) (@Go.Bx.pubFE.eq_2))))))))
 (And.intro
 (And.intro
 (And.intro
 (And.intro
 (And.intro
 (And.intro (@Go.Bx.pubFV.eq_1) (@Go.Bx.pubFV.eq_2))
 (And.intro (@Go.Bx.pubFV.eq_3)
 (And.intro (@Go.Bx.pubFV.eq_4) (@Go.Bx.pubFV.eq_5))))
 (And.intro
 (And.intro (@Go.Bx.pubFV.eq_6) (@Go.Bx.pubFV.eq_7))
 (And.intro (@Go.Bx.pubFV.eq_8)
 (And.intro (@Go.Bx.pubFV.eq_9) (@Go.Bx.pubFV.eq_10)))))
 (And.intro
 (And.intro
 (And.intro (@Go.Bx.pubFV.eq_11) (@Go.Bx.pubFV.eq_12))
 (And.intro (@Go.Bx.pubFL.eq_1)
 (And.intro (@Go.Bx.pubFL.eq_2) (@Go.Bx.pubFO.eq_1))))
 (And.intro
 (And.intro (@Go.Bx.pubFO.eq_2)
 (And.intro (@Go.Bx.pubFO.eq_3) (@Go.Bx.pubFO.eq_4)))
 (And.intro (@Go.Bx.pubFO.eq_5)
 (And.intro (@Go.Bx.delO.eq_1) (@Go.Bx.delO.eq_2))))))
 (And.intro
 (And.intro
 (And.intro
 (And.intro (@Go.Bx.eqS.eq_1) (@Go.Bx.eqS.eq_2))
 (And.intro (@Go.Bx.eqS.eq_3)
 (And.intro (@Go.Bx.eqB.eq_1) (@Go.Bx.eqB.eq_2))))
 (And.intro
 (And.intro (@Go.Bx.eqB.eq_3)
 (And.intro (@Nat.not_lt_zero) (@Nat.sub_zero)))
 (And.intro (@decide_true)
 (And.intro (@decide_false) (@true_or)))))
 (And.intro
 (And.intro
 (And.intro (@or_true) (@Int.le_refl))
 (And.intro (@Int.cast_ofNat_Int)
 (And.intro (@beq_self_eq_true.{0}) (@Nat.mul_one))))
 (And.intro
 (And.intro (@Nat.one_mul)
 (And.intro (@Nat.zero_mul) (@Go.Bx.V.ren.eq_1)))
 (And.intro (@Go.Bx.V.ren.eq_2)
 (And.intro (@Go.Bx.V.ren.eq_3) (@Go.Bx.V.ren.eq_4)))))))
 (And.intro
 (And.intro
 (And.intro
 (And.intro
 (And.intro (@Go.Bx.V.ren.eq_5) (@Go.Bx.V.ren.eq_6))
 (And.intro (@Go.Bx.V.ren.eq_7)
 (And.intro (@Go.Bx.V.ren.eq_8) (@Go.Bx.V.ren.eq_9))))
 (And.intro
 (And.intro (@Go.Bx.V.ren.eq_10)
 (And.intro (@Go.Bx.V.ren.eq_11) (@Go.Bx.V.ren.eq_12)))
 (And.intro (@Go.Bx.renL.eq_1)
 (And.intro (@Go.Bx.renL.eq_2) (@Go.Bx.renO.eq_1)))))
 (And.intro
 (And.intro
 (And.intro (@Go.Bx.renO.eq_2) (@Go.Bx.renE.eq_1))
 (And.intro (@Go.Bx.renE.eq_2)
 (And.intro (@Go.Bx.Own.ren.eq_1) (@Go.Bx.Own.ren.eq_2))))
 (And.intro
 (And.intro (@Go.Bx.Own.ren.eq_3)
 (And.intro (@Go.Bx.Own.ren.eq_4) (@Go.Bx.sw.eq_1)))
 (And.intro (@Go.Bx.mapE.eq_1)
 (And.intro (@Go.Bx.mapE.eq_2) (@Go.Bx.mapO.eq_1))))))
 (And.intro
 (And.intro
 (And.intro
 (And.intro (@Go.Bx.mapO.eq_2) (@Go.Bx.mapO.eq_3))
 (And.intro (@Go.Bx.mapO.eq_4)
 (And.intro (@Go.Bx.mapO.eq_5) (@Go.Bx.shrV.eq_1))))
 (And.intro
 (And.intro (@Go.Bx.shrV.eq_2)
 (And.intro (@Go.Bx.shrV.eq_3) (@Go.Bx.shrV.eq_4)))
 (And.intro (@Go.Bx.shrV.eq_5)
 (And.intro (@Go.Bx.shrV.eq_6) (@Go.Bx.shrV.eq_7)))))
 (And.intro
 (And.intro
 (And.intro (@Go.Bx.shrV.eq_8) (@Go.Bx.shrV.eq_9))
 (And.intro (@Go.Bx.shrV.eq_10)
 (And.intro (@Go.Bx.shrV.eq_11) (@Go.Bx.shrV.eq_12))))
 (And.intro
 (And.intro (@Go.Bx.shrL.eq_1)
 (And.intro (@Go.Bx.shrL.eq_2) (@Go.Bx.catR.eq_1)))
 (And.intro (@Go.Bx.catR.eq_2)
 (And.intro (@Bool.false_and) (@Bool.and_false))))))))))
def A7:=
 And.intro enl
 (And.intro
 (And.intro
 (And.intro (@Go.Bx.EnvLe.eq_1)
 (And.intro (@Go.Bx.EnvLe.eq_2) (@Go.Bx.OwnLe.eq_1)))
 (And.intro
 (And.intro (@Go.Bx.OwnLe.eq_2) (@Go.Bx.OLe_refl))
 (And.intro (@Go.Bx.VLe_refl) (@Go.Bx.VLe_int))))
 (And.intro
 (And.intro
 (And.intro (@Go.Bx.VLe_bool) (@Go.Bx.VsLe.eq_1))
 (And.intro (@Go.Bx.VsLe.eq_2) (@exists_eq_left.{1})))
 (And.intro
 (And.intro (@exists_eq_left.{0}) (@exists_eq_left'.{1}))
 (And.intro (@exists_eq_left'.{0}) (@Option.some.injEq.{0})))))
def B8:=
 And.intro rsl
 (And.intro
 (And.intro
 (And.intro (@Go.Bx.ressS.eq_1) (@Go.Bx.ressS.eq_2))
 (And.intro (@Go.Bx.resS.eq_1) (@Go.Bx.resS.eq_2)))
 (And.intro
 (And.intro (@Go.Bx.retV.eq_1) (@Go.Bx.ressV.eq_1))
 (And.intro (@Go.Bx.ressV.eq_2)
 (And.intro (@Go.Bx.resV.eq_1) (@Go.Bx.resV.eq_2)))))
end Go.Bx
end
section
namespace Go.Bx
open Go.RowKit
structure Y4 (fn:List Nat) (Z:Nat→List (Nat×Own)):Prop where
 nodup:∀ k,(keysO (Z k)).Nodup
 names:∀ k n,n∈A4 (Z k)→n∈keysO (Z k)
 ge:∀ k n,n∈keysO (Z k)→1000000≤n
 fx:∀ k n,n∈fn→n∈keysO (Z k)
def Ka (c:B3) (Z:List (Nat×Own)):Cs
 |.nrm,st=>∃ st',Wk c st st'∧OwnLe st'.own Z
 |.exit _,_=>False
 |.ret,st=>∃ st',Wk c st st'∧OwnLe st'.own Z
theorem At.sub {E0:Nat→Prop} {β:A6} {w:World} {own outs:List (Nat×Own)} (h:At E0 β w own) (ho:OwnLe own outs) (hnd:(keysO outs).Nodup):At E0 β w outs:=by
 have hkey:∀ k,k∈keysO outs→k∈keysO own:=λk hk=>by
  obtain ⟨o,hm⟩:=Ba hk
  obtain ⟨o',h1,_⟩:=OwnLe.get ho k o hm
  exact Ab (Ah h1)
 have hl:B5 (Eo E0 β own) (Eo E0 β outs) w w:=λb _ h1=>⟨λh2=>h1 (h2.imp id λ⟨k,h3,h4⟩=>⟨k,hkey k h3,h4⟩),rfl⟩
 refine ⟨λk o hk=>?_,hnd,λk k' h1 h2=>h.apart k k' (hkey k h1) (hkey k' h2),λk h1=>h.lt k (hkey k h1)⟩
 obtain ⟨o',h1,h2⟩:=OwnLe.get ho k o hk
 exact (h2 _ _ _ _ (h.ok k o' (Ah h1))).lasts hl (A6.le.refl β) (λ_ _=>rfl)
theorem Ld {P:Program} {gf:FuncId} {fn:Func} {code:Code} {cc:C} {caps:List V} {args:Nat→List V} {n:Nat}
  (hf:P.funcs[gf]?=some fn) (hok:In P gf=true) (hb:fn.body=some code) (hcc:Dg P fn.ntmps code=some cc) (hrs:D2 P fn.results.toList=some []) (hlen:caps.length+1≤fn.ntmps) (hcap:A5 caps=[]) (hargs:∀ k,A5 (args k)=[])
  (h:∀ (c:B3) (l T:Nat) (stop:Bool) (Z:Nat→List (Nat×Own)),c.P=P→c.nt=fn.ntmps→Y4 c.fn Z→(stop=false→T=n)→(stop=true→0<T∧T≤n)→(∀ k,k<T→YR c l (args k) (Z k) (Z (k+1)) (F7 T stop k)) →
   B4 c cc ⟨initE 0 (.fn (.yield l) [] []::caps),Z 0,keysO (Z 0)⟩ (Ka c (Z T))):L3 P gf caps args n:=by
 refine ⟨hok,λl EI LI wI βI fx T stop O vals hcli hT hT' hE hLI hown hvs hvr hY=>?_⟩
 let β0:A6:=λm=>open Classical in if h:∃ q,q∈keysO (O 0)∧pk fx 0 q=m then βI (Classical.choose h) else none
 have hβ0:∀ q,q∈keysO (O 0)→β0 (pk fx 0 q)=βI q:=λq hq=>by
  have hyes:∃ q',q'∈keysO (O 0)∧pk fx 0 q'=pk fx 0 q:=⟨q,hq,rfl⟩
  simp only [β0,dif_pos hyes]
  rw [(Qr (Classical.choose_spec hyes).2).1]
 have hβn:∀ m,m∉keysO (renO (pk fx 0) (O 0))→β0 m=none:=λm hm=>by
  have hno:¬ ∃ q',q'∈keysO (O 0)∧pk fx 0 q'=m:=by
   rintro ⟨q,h1,rfl⟩
   exact hm (by rw [Ax];exact List.mem_map.2 ⟨q,h1,rfl⟩)
  simp only [β0,dif_neg hno]
 have hpk:∀ (k n m:Nat),n∈keysO (O k)→m∈keysO (O k)→pk fx k n=pk fx k m→n=m:=λ_ _ _ _ _ e=>(Qr e).1
 let c:B3:={ P:=P,E0:=EI,w0:=wI,L:=LI,nt:=fn.ntmps,fn:=fx.map (pk fx 0),fx:=β0,rd:=none,hE:=hE }
 obtain ⟨hup,hupE⟩:=hown.ren (β':=β0) (hcli.names 0) hβ0 (hpk 0)
 have hZ:Y4 c.fn (λk=>renO (pk fx k) (O k)):=by
  refine ⟨λk=>?_,λk m hm=>?_,λk m hm=>?_,λk m hm=>?_⟩
  ·simp only [Ax];exact Dw (hcli.nodup k) (hpk k)
  ·simp only [Dj,Ax,List.mem_map] at hm ⊢
   obtain ⟨q,hq,rfl⟩:=hm
   exact ⟨q,hcli.names k q hq,rfl⟩
  ·simp only [Ax,List.mem_map] at hm
   obtain ⟨q,hq,rfl⟩:=hm
   exact pk_ge fx k q
  ·simp only [c,Ax,List.mem_map] at hm ⊢
   obtain ⟨q,hq,rfl⟩:=hm
   exact ⟨q,hcli.fx k q hq,by rw [Np hq,Np hq]⟩
 have hYR:∀ k,k<T→YR c l (args k) (renO (pk fx k) (O k)) (renO (pk fx (k+1)) (O (k+1))) (F7 T stop k):=λk hk =>
  yr_ok (c:=c) (βI:=βI) (fx:=fx) (O:=O) (k:=k) (λq hq=>⟨List.mem_map.2 ⟨q,hq,rfl⟩,hβ0 q (hcli.fx 0 q hq)⟩) hcli (hY k hk) (hargs k)
 have hsz:(#[Value.func (.yield l) #[] #[]]++vals:Array Value).size=caps.length+1:=by simp;omega
 have hv:∀ (j:Nat) (v:Value) (x:V),(#[Value.func (.yield l) #[] #[]]++vals:Array Value)[j]?=some v→(V.fn (.yield l) [] []::caps)[j]?=some x→Ai β0 (Eo EI β0 (renO (pk fx 0) (O 0))) wI v x:=λj v x h1 h2=>by
  cases j with
  |zero =>
   rw [Array.getElem?_append_left (by simp)] at h1
   simp at h1 h2;subst h1;subst h2
   exact .fn _ _ _ _ _ rfl rfl (λj v x hv=>by simp at hv) (λj v x hv=>by simp at hv)
  |succ j =>
   rw [Array.getElem?_append_right (by simp)] at h1
   simp at h1 h2
   rw [hupE]
   refine (hvr j v x h1 h2).lasts (B5.refl _ _) λm hm=>?_
   have:=Bz h2 m hm;rw [hcap] at this;cases this
 have H:Aa c β0 ⟨initE 0 (.fn (.yield l) [] []::caps),renO (pk fx 0) (O 0),keysO (renO (pk fx 0) (O 0))⟩ { tmps:=(#[Value.func (.yield l) #[] #[]]++vals)++Array.replicate (fn.ntmps-(#[Value.func (.yield l) #[] #[]]++vals:Array Value).size) undef,defers:=[] } wI:=by
  refine ⟨by simp [c];omega,Lk.nil rfl,λs=>?_,hup,λk hk b hb1=>.inr ?_,λk hk=>hk,λk hk=>hβn k hk,Aw.refl _ _,λk hk=>⟨hZ.fx 0 k hk,rfl⟩⟩
  ·rw [Gl,if_pos (Nat.zero_le _),Nat.sub_zero]
   cases ha:(V.fn (.yield l) [] []::caps)[s]? with
   |none=>exact .un _
   |some x =>
    have hsl:s<(#[Value.func (.yield l) #[] #[]]++vals:Array Value).size:=by have:=(List.getElem?_eq_some_iff.1 ha).1;rw [hsz];simpa using this
    have hvs':=Array.getElem?_eq_getElem hsl
    have:((#[Value.func (.yield l) #[] #[]]++vals)++Array.replicate (fn.ntmps-(#[Value.func (.yield l) #[] #[]]++vals:Array Value).size) undef).getD s undef=(#[Value.func (.yield l) #[] #[]]++vals:Array Value)[s]:=by
     rw [Array.getD_eq_getD_getElem?,Array.getElem?_append_left hsl,hvs'];rfl
    simp only
    rw [this]
    exact hv s _ x hvs' ha
  ·rw [Ax] at hk
   obtain ⟨q,hq,rfl⟩:=List.mem_map.1 hk
   simp only [c,hLI]
   exact ⟨q,hq,by simp only [A6.blk,←hβ0 q hq];exact hb1⟩
 refine (callsIn_wide (n:=0)).1 (callsIn_of_wp_marks hf hb trivial (wpIn_mono (Ol (c:=c) hcc (h c l T stop (λk=>renO (pk fx k) (O k)) rfl rfl hZ hT hT' hYR) β0 _ wI H) ?_))
 rintro e a' w' (⟨ex,he,β1,st1,hk,H1⟩|⟨ch,rfl,hpan⟩)
 rotate_left
 ·obtain ⟨_,_,_,_,_,hq,_⟩:=hpan;exact hq.elim
 have fin:(∃ st2,Wk c st1 st2∧OwnLe st2.own (renO (pk fx T) (O T)))→LeavesInM Fence.wide 0 P fn a'.tmps (λe w'=>∃ v β',e=.returned v∧(∀ n,n∈fx→β' n=βI n)∧At EI β' w' (O T)∧Aw LI wI w'∧(∀ k,k∈keysO (O T)→∀ b,β'.blk k=some b→wI.heap.size≤b∨LI b)) a'.defers .returning w':=by
  rintro ⟨st2,hs2,hout⟩
  obtain ⟨β2,H2⟩:=hs2 β1 a' w' H1
  refine Gd (c:=c) rfl a'.defers rfl H2 λa' w' _ H2=>?_
  obtain ⟨v,hrun,-⟩:=Il (fn:=fn) H2 hrs trivial
  have h1:=H2.own.sub hout (by rw [Ax];exact Dw (hcli.nodup T) (hpk T))
  obtain ⟨h2,-⟩:=h1.unren (hcli.nodup T) (hpk T)
  refine ⟨v,hrun,v,λq=>β2 (pk fx T q),rfl,λq hq=>?_,h2,H2.kp,λk hk b hb=>H2.fr (pk fx T k) ?_ b hb⟩
  ·have:=(H2.fx (pk fx 0 q) (List.mem_map.2 ⟨q,hq,rfl⟩)).2
   simp only
   rw [Np hq,←Np hq 0,this]
   exact hβ0 q (hcli.fx 0 q hq)
  ·have hm:pk fx T k∈keysO (renO (pk fx T) (O T)):=by rw [Ax];exact List.mem_map.2 ⟨k,hk,rfl⟩
   obtain ⟨o,ho⟩:=Ba hm
   obtain ⟨o',h3,_⟩:=OwnLe.get hout _ o ho
   exact Ab (Ah h3)
 cases e<;>simp at he<;>subst he
 ·exact fin hk
 ·exact hk.elim
 ·exact hk.elim
 ·exact fin hk
section
variable {c:B3} {st:St}
theorem oe {fn:List Nat} {Z:Nat→List (Nat×Own)} (h:Y4 fn Z) {k n:Nat} (hn:n<1000000):own? (Z k) n=none:=N2 λhm=>by have:=h.ge k n hm;omega
theorem Wk.ofZ0 {fn:List Nat} {Z:Nat→List (Nat×Own)} (hZ:Y4 fn Z) (hfn:c.fn=fn) (k:Nat) {env:List (Nat×V)} {own:List (Nat×Own)} {nm:List Nat} (hB:V2 [] ⟨env,own,nm⟩=true) (hnm:(nm.all λn=>decide (n<1000000))=true)
  (he:∀ s,Ag (Go.Bx.get st.env s) (Go.Bx.get env s)) (ho:OwnLe st.own own) (hr:∀ n o,(n,o)∈Z k→own? st.own n=some o):Wk c st ⟨env,own++Z k,nm++keysO (Z k)⟩:=by
 simp only [V2,Bool.and_eq_true,List.all_eq_true,List.contains_iff_mem] at hB
 obtain ⟨-,h2,h3,h4⟩:=hB
 have hk:∀ n,n∈keysO own→n∈nm:=λn hk=>by obtain ⟨o,ho'⟩:=Ba hk;exact h4 n (Do ho').1
 have hlt:∀ n,n∈nm→n<1000000:=λn hn=>by simpa using List.all_eq_true.1 hnm n hn
 have hkZ:∀ n,n∈keysO (own++Z k)→n∈keysO own∨n∈keysO (Z k):=λn hn=>by rw [Kd] at hn;exact List.mem_append.1 hn
 refine Wk.mk0 he ?_ ?_ (λn hn=>?_) (λn hn=>?_) (λs y hm n hn=>List.mem_append_left _ (h3 n (Hg hm n hn))) (λn o hm j hj=>?_)
 ·refine OwnLe.of λn o hm=>?_
  rcases List.mem_append.1 hm with hm|hm
  ·exact OwnLe.get ho n o hm
  ·exact ⟨o,hr n o hm,Bf.refl o⟩
 ·rw [Kd,List.nodup_append]
  exact ⟨E1 h2,hZ.nodup k,λa ha b hb e=>by have:=hlt a (hk a ha);have:=hZ.ge k b hb;omega⟩
 ·rcases hkZ n hn with h|h
  ·exact List.mem_append_left _ (hk n h)
  ·exact List.mem_append_right _ h
 ·exact List.mem_append_right _ (hZ.fx k n (hfn▸hn))
 ·rcases List.mem_append.1 hm with hm|hm
  ·exact List.mem_append_left _ (h4 j ((Do hm).2 j hj))
  ·exact List.mem_append_right _ (hZ.names k j (D3 hm j hj))
theorem Wk.ofZ {fn:List Nat} {Z:Nat→List (Nat×Own)} (hZ:Y4 fn Z) (hfn:c.fn=fn) (k:Nat) {env:List (Nat×V)} {own:List (Nat×Own)} {nm:List Nat} (hB:V2 [] ⟨env,own,nm⟩=true) (hnm:(nm.all λn=>decide (n<1000000))=true)
  (he:EnvLe st.env env) (ho:OwnLe st.own own) (hr:∀ n o,(n,o)∈Z k→own? st.own n=some o):Wk c st ⟨env,own++Z k,nm++keysO (Z k)⟩:=Wk.ofZ0 hZ hfn k hB hnm (EnvLe.get he) ho hr
theorem TR.yield {fn:List Nat} {Z:Nat→List (Nat×Own)} (hZ:Y4 fn Z) (hfn:c.fn=fn) {k l:Nat} {go:Bool} {args:List V} (hY:YR c l args (Z k) (Z (k+1)) go) {env:List (Nat×V)} {own:List (Nat×Own)} {nm:List Nat} (hB:V2 [] ⟨env,own,nm⟩=true) (hnm:(nm.all λn=>decide (n<1000000))=true)
  {d:Option Nat} {x:X} {xs:List X} {is:List I} {acc:List Lg} {K:List Lg→St→Prop} (hx:evV ⟨env,own++Z k,nm++keysO (Z k)⟩ x=.fn (.yield l) [] []) (hsx:evS true ⟨env,own++Z k,nm++keysO (Z k)⟩ x) (ha:evVs ⟨env,own++Z k,nm++keysO (Z k)⟩ xs=args) (hs:evSs true ⟨env,own++Z k,nm++keysO (Z k)⟩ xs)
  (h:El c false is ⟨setE env d (.d (.bool go)),own++Z (k+1),nm++keysO (Z (k+1))⟩ acc K):TR c false (⟨d,none,.callv x xs⟩::is) ⟨env,own++Z k,nm++keysO (Z k)⟩ acc K:=by
 have hB':=hB
 simp only [V2,Bool.and_eq_true,List.all_eq_true,List.contains_iff_mem] at hB'
 obtain ⟨-,h2,h3,h4⟩:=hB'
 have hk:∀ n,n∈keysO own→n∈nm:=λn hk=>by obtain ⟨o,ho'⟩:=Ba hk;exact h4 n (Do ho').1
 have hlt:∀ n,n∈nm→n<1000000:=λn hn=>by simpa using List.all_eq_true.1 hnm n hn
 have hnd:(keysO (own++Z k)).Nodup:=by
  rw [Kd,List.nodup_append]
  exact ⟨E1 h2,hZ.nodup k,λa ha b hb e=>by have:=hlt a (hk a ha);have:=hZ.ge k b hb;omega⟩
 have hin:∀ n o,(n,o)∈Z k→own? (own++Z k) n=some o:=λn o hm=>Ay hnd (List.mem_append_right _ hm)
 refine TR.cons _ (hY d x xs _ hx hsx ha hs hin) (λn hn h5=>?_) ?_
 ·obtain ⟨h6,h7⟩:=List.mem_filter.1 hn
  rcases List.mem_append.1 h5 with h5|h5
  ·have:=hlt n h5;have:=hZ.ge _ n h6;omega
  ·simp only [Bool.not_eq_true',List.contains_eq_mem,decide_eq_false_iff_not] at h7
   exact h7 h5
 ·simp only [lgs,Bool.false_eq_true,if_false]
  refine TR.wk ⟨setE env d (.d (.bool go)),own++Z (k+1),nm++keysO (Z (k+1))⟩ ?_ (C1 h)
  have hcall:=λn=>Kh (ins:=Z k) (outs:=Z (k+1)) hnd (hZ.nodup (k+1)) n
  have hwk:=Wk.ofZ0 (c:=c) (st:=St.stp ⟨env,own++Z k,nm++keysO (Z k)⟩ d { val:=.d (.bool go),upd:=callU (Z k) (Z (k+1)),rd:=keysO (Z k),new:=(keysO (Z (k+1))).filter λn=>!(keysO (Z k)).contains n }) hZ hfn (k+1) (env:=setE env d (.d (.bool go))) (own:=own) (nm:=nm) ?_ hnm ?_ ?_ ?_
  ·exact hwk
  ·simp only [V2,List.all_nil,Bool.true_and,Bool.and_eq_true,List.all_eq_true,List.contains_iff_mem] at hB ⊢
   refine ⟨hB.1,λn hn=>?_,hB.2.2⟩
   cases d with
   |none=>exact hB.2.1 n hn
   |some d =>
    simp only [setE,Ez,V.names,List.nil_append] at hn
    exact hB.2.1 n hn
  ·exact λs=>Ag.refl _
  ·refine OwnLe.of λn o hm=>⟨o,?_,Bf.refl o⟩
   have hn:=hlt n (hk n (Ab hm))
   show own? (applyU (own++Z k) (callU (Z k) (Z (k+1)))) n=some o
   rw [hcall,oe hZ hn]
   simp only
   rw [if_neg (λh=>by have:=hZ.ge k n h;omega)]
   exact Ay hnd (List.mem_append_left _ hm)
  ·intro n o hm
   show own? (applyU (own++Z k) (callU (Z k) (Z (k+1)))) n=some o
   rw [hcall,Ay (hZ.nodup (k+1)) hm]
theorem B4.rfnAll {K:Cs} {x:X} {ps:List Nat} {a b:C} {gf:FuncId} {caps:List V} {args:Nat→List V} {n:Nat} (hI:L3 c.P gf caps args n) (env0:List (Nat×V)) (NF:List Nat) (O O1:Nat→List (Nat×Own)) (env1:Nat→List (Nat×V))
  (hwk:Wk c st ⟨env0,O 0,keysO (O 0)⟩) (hx:evV ⟨env0,O 0,keysO (O 0)⟩ x=.fn (.func gf) [] caps) (hsx:evS true ⟨env0,O 0,keysO (O 0)⟩ x) (hO:RfnO c env0 NF n n none caps args O O1 ps.length)
  (hA:∀ k,k<n→∀ cB:B3,cB.P=c.P→cB.fn=NF→B4 cB a ⟨I2 ps (args k) env0,O k,keysO (O k)⟩ (qr cB (env1 k) (O1 k)))
  (hB:∀ k,k<n→∀ cB:B3,cB.P=c.P→cB.fn=NF→B4 cB b ⟨env1 k,O1 k,keysO (O1 k)⟩ (re cB true none (O (k+1))))
  (hK:K .nrm ⟨env0,O n,keysO (O n)⟩):B4 c (.rfn x ps a b) st K:=by
 unfold B4
 refine ⟨gf,caps,env0,NF,n,n,none,args,O,O1,env1,hwk,hx,hsx,hO,hI,λk hk cB h1 _ h3=>⟨hA k hk cB h1 h3,?_⟩,λ_=>hK,λe he=>by cases he⟩
 have:F7 n (none:Option Ex).isSome k=true:=by simp [F7]
 rw [this]
 exact hB k hk cB h1 h3
theorem B4.rfnJ {K:Cs} {x:X} {ps:List Nat} {a b:C} {gf:FuncId} {caps:List V} {args:Nat→List V} {n:Nat} (hI:L3 c.P gf caps args n) (T:Nat) (J:Option Ex) (env0:List (Nat×V)) (NF:List Nat) (O O1:Nat→List (Nat×Own)) (env1:Nat→List (Nat×V))
  (hwk:Wk c st ⟨env0,O 0,keysO (O 0)⟩) (hx:evV ⟨env0,O 0,keysO (O 0)⟩ x=.fn (.func gf) [] caps) (hsx:evS true ⟨env0,O 0,keysO (O 0)⟩ x) (hO:RfnO c env0 NF n T J caps args O O1 ps.length)
  (hA:∀ k,k<T→∀ cB:B3,cB.P=c.P→cB.fn=NF→B4 cB a ⟨I2 ps (args k) env0,O k,keysO (O k)⟩ (qr cB (env1 k) (O1 k)))
  (hB:∀ k,k<T→∀ cB:B3,cB.P=c.P→cB.fn=NF→B4 cB b ⟨env1 k,O1 k,keysO (O1 k)⟩ (re cB (F7 T J.isSome k) J (O (k+1))))
  (hK:J=none→K .nrm ⟨env0,O T,keysO (O T)⟩) (hK':∀ e,J=some e→K e ⟨env0,O T,keysO (O T)⟩):B4 c (.rfn x ps a b) st K:=by
 unfold B4
 exact ⟨gf,caps,env0,NF,n,T,J,args,O,O1,env1,hwk,hx,hsx,hO,hI,λk hk cB h1 _ h3=>⟨hA k hk cB h1 h3,hB k hk cB h1 h3⟩,hK,hK'⟩
theorem Jj {env:List (Nat×V)} {O:List (Nat×Own)} {st':St}:qr c env O .nrm st'=Wk c st' ⟨env,O,keysO O⟩:=propext ⟨λh=>h,λh=>h⟩
theorem pm {go:Bool} {J:Option Ex} {O:List (Nat×Own)} {st':St}:re c go J O .nrm st'=(go=true∧Wk c st' ⟨[],O,keysO O⟩):=propext ⟨λh=>h,λh=>h⟩
theorem Ka.mk {Z:List (Nat×Own)} (st1:St) (h:Wk c st st1) (h1:OwnLe st1.own Z):Ka c Z .ret st:=⟨st1,h,h1⟩
theorem Ka.mk' {Z:List (Nat×Own)} (st1:St) (h:Wk c st st1) (h1:OwnLe st1.own Z):Ka c Z .nrm st:=⟨st1,h,h1⟩
end
end Go.Bx
end
section
namespace Go.Bx
open Go.RowKit
def sr (c:B3) (b:C) (K:Cs):Cs
 |.nrm,st=>∃ st1,Wk c st st1∧B4 c b st1 K
 |.exit i,st=>K (.exit i) st
 |.ret,st=>K .ret st
theorem I5 {c:B3} {b:C} {K:Cs} {st:St}:sr c b K .nrm st=∃ st1,Wk c st st1∧B4 c b st1 K:=propext ⟨λh=>h,λh=>h⟩
theorem T4 {P:Program} {nt n:Nat} {code:Code} {ca cb:C} (h:Av P nt (n+1) code=some (.seq ca cb)):∃ a b,code=.seq a b∧Av P nt n a=some ca∧Av P nt n b=some cb:=by
 cases code with
 |seq x y =>
  simp only [Av] at h
  split at h
  ·rename_i x' y' h1 h2
   cases h
   exact ⟨x,y,rfl,h1,h2⟩
  ·cases h
 |region id ops draw =>
  simp only [Av] at h
  split at h
  ·split at h
   ·cases h
   ·split at h<;>cases h
  ·cases h
 |cond x a b=>simp only [Av] at h;split at h<;>cases h
 |block id a=>simp only [Av,Option.map_eq_some_iff] at h;obtain ⟨_,_,h⟩:=h;cases h
 |loop a=>simp only [Av,Option.map_eq_some_iff] at h;obtain ⟨_,_,h⟩:=h;cases h
 |scope a =>
  simp only [Av] at h
  split at h
  ·split at h
   ·split at h<;>cases h
   ·cases h
  ·cases h
 |rangeFunc g ps asg body =>
  simp only [Av] at h
  split at h
  ·split at h<;>cases h
  ·cases h
 |_=>simp [Av] at h
theorem vn {c:B3} {code:Code} {ca cb:C} {st:St} {K:Cs} (h:Dg c.P c.nt code=some (.seq ca cb)) (hv:B4 c ca st (sr c cb K)):∀ β a w,Aa c β st a w→code.wpIn c.F 0 c.P (Fl c K) a w:=by
 intro β a w H
 obtain ⟨x,y,rfl,h1,h2⟩:=T4 (n:=63) h
 refine wpIn_seq (wpIn_mono (M0 63 h1 hv β a w H) ?_)
 rintro e a' w' (⟨ex,he,β',st',hk,H'⟩|⟨ch,rfl,hpan⟩)
 rotate_left
 ·exact .inr ⟨ch,rfl,hpan⟩
 cases e<;>simp at he<;>subst he
 ·obtain ⟨st1,hw,hk⟩:=hk
  obtain ⟨β2,H2⟩:=hw β' a' w' H'
  exact M0 63 h2 hk β2 a' w' H2
 all_goals exact .inl ⟨_,rfl,β',st',hk,H'⟩
theorem W9 {P:Program} {f:FuncId} {fn:Func} {code:Code} {rs:List RV} {ca cb:C} {args:List V} {ins outs:List (Nat×Own)} {res:V} {new:List Nat}
  (hf:P.funcs[f]?=some fn) (hok:In P f=true) (hb:fn.body=some code) (hcc:Dg P fn.ntmps code=some (.seq ca cb)) (hrs:D2 P fn.results.toList=some rs) (hlen:args.length≤fn.ntmps)
  (hko:∀ k,k∈keysO outs→k∈keysO ins∨k∈new) (hno:∀ k,k∈new→k∈keysO outs) (hnd:(keysO outs).Nodup)
  (hnr:∀ k,k∈res.names++A4 outs→k∈A5 args++A4 ins∨k∈new)
  (h:∀ c:B3,c.P=P→c.nt=fn.ntmps→c.fn=A5 args++A4 ins→B4 c ca ⟨initE 0 args,ins,A5 args++A4 ins⟩ (sr c cb (Ci c rs res outs))):Aj P f args ins res outs new:=by
 refine ⟨hok,hko,hno,λE0 β w vals hE hsz hv hins hnn=>?_⟩
 let nm0:=A5 args++A4 ins
 let βc:A6:=λk=>if k∈nm0 then β k else none
 have hβc:∀ k,k∈nm0→βc k=β k:=λk hk=>if_pos hk
 have hkin:∀ k,k∈keysO ins→k∈nm0:=λk hk=>List.mem_append_right _ (F5 hk)
 have hblk:∀ k,k∈keysO ins→βc.blk k=β.blk k:=λk hk=>by simp only [A6.blk,hβc k (hkin k hk)]
 let c:B3:={ P:=P,E0:=E0,w0:=w,L:=Co β ins,nt:=fn.ntmps,fn:=nm0,fx:=βc,hE:=hE,rd:=none }
 have hEq:Eo E0 βc ins=Eo E0 β ins:=by
  funext b
  apply propext
  unfold Eo
  constructor
  ·rintro (h1|⟨k,h1,h2⟩)
   ·exact .inl h1
   ·exact .inr ⟨k,h1,by rw [←hblk k h1];exact h2⟩
  ·rintro (h1|⟨k,h1,h2⟩)
   ·exact .inl h1
   ·exact .inr ⟨k,h1,by rw [hblk k h1];exact h2⟩
 have hl0:B5 (Eo E0 β ins) (Eo E0 βc ins) w w:=by rw [hEq];exact B5.refl _ _
 have hsz2:(vals++Array.replicate (fn.ntmps-vals.size) undef).size=fn.ntmps:=by simp;omega
 have H:Aa c βc ⟨initE 0 args,ins,nm0⟩ { tmps:=vals++Array.replicate (fn.ntmps-vals.size) undef,defers:=[] } w:=by
  refine ⟨hsz2,Lk.nil rfl,λs=>?_,⟨λk o hk=>?_,hins.nodup,λk k' h1 h2 hne b h3 h4=>?_,λk hk b hb1=>?_⟩,λk hk b hb1=>?_,λk hk=>hkin k hk,λk hk=>if_neg hk,Aw.refl _ _,λk hk=>⟨hk,rfl⟩⟩
  ·rw [Gl,if_pos (Nat.zero_le _),Nat.sub_zero]
   cases ha:args[s]? with
   |none=>exact .un _
   |some x =>
    have hsl:s<vals.size:=by have:=(List.getElem?_eq_some_iff.1 ha).1;omega
    have hvs:vals[s]?=some vals[s]:=Array.getElem?_eq_getElem hsl
    have:(vals++Array.replicate (fn.ntmps-vals.size) undef).getD s undef=vals[s]:=by
     simp only [Array.getD_eq_getD_getElem?,Array.getElem?_append_left hsl,hvs,Option.getD_some]
    simp only
    rw [this]
    exact (hv s _ x hvs ha).lasts hl0 (λk hk=>hβc k (List.mem_append_left _ (Bz ha k hk)))
  ·exact (hins.ok k o hk).forget hl0 (hβc k (hkin k (Ab hk))) (λj hj=>hβc j (List.mem_append_right _ (D3 hk j hj))) (λ_ _=>rfl)
  ·rw [hblk k h1] at h3
   rw [hblk k' h2] at h4
   exact hins.apart k k' h1 h2 hne b h3 h4
  ·rw [hblk k hk] at hb1
   exact hins.lt k hk b hb1
  ·rw [hblk k hk] at hb1
   exact .inr ⟨k,hk,hb1⟩
 refine (callsIn_wide (n:=0)).1 (callsIn_of_wp_marks hf hb trivial (wpIn_mono (vn (c:=c) hcc (h c rfl rfl rfl) βc _ w H) ?_))
 rintro e a' w' (⟨ex,he,β1,st1,hk,H1⟩|⟨ch,rfl,hpan⟩)
 rotate_left
 ·obtain ⟨_,_,_,_,_,hq,_⟩:=hpan;exact hq.elim
 have fin:(∃ st2,Wk c st1 st2∧ressS st2 rs∧Ag (retV st2 rs) res∧OwnLe st2.own outs)→LeavesInM Fence.wide 0 P fn a'.tmps (λe w'=>∃ v β',e=.returned v∧β.le β'∧(∀ k,k∉new→β' k=β k)∧Ai β' (Eo E0 β' outs) w' v res∧At E0 β' w' outs∧Aw (Co β ins) w w' ∧
   (∀ k,k∈keysO outs→∀ b,β'.blk k=some b→w.heap.size≤b∨Co β ins b)) a'.defers .returning w':=by
  rintro ⟨st2,hs2,hrs2,hle2,hout⟩
  obtain ⟨β2,H2⟩:=hs2 β1 a' w' H1
  refine Gd (c:=c) rfl a'.defers rfl H2 λa' w' _ H2=>?_
  obtain ⟨v,hrun,hrel⟩:=Il H2 hrs hrs2
  obtain ⟨βo,hβo⟩:∃ b:A6,∀ k,b k=if k∈new then β2 k else β k:=⟨_,λ_=>rfl⟩
  refine ⟨v,hrun,v,βo,rfl,?_,λk hk=>(hβo k).trans (if_neg hk),?_⟩
  ·intro k u hu
   by_cases hk:k∈new
   ·rw [hnn k hk] at hu;cases hu
   ·exact ((hβo k).trans (if_neg hk)).trans hu
  have hfx:∀ k,k∈nm0→β2 k=β k:=λk hk=>by
   have:=(H2.fx k hk).2
   rw [this]
   exact hβc k hk
  have hb':∀ k,(k∈nm0∨k∈new)→βo k=β2 k:=λk hk=>by
   by_cases hn:k∈new
   ·exact (hβo k).trans (if_pos hn)
   ·exact ((hβo k).trans (if_neg hn)).trans (hfx k (hk.resolve_right hn)).symm
  have hkey:∀ k,k∈keysO outs→k∈keysO st2.own:=λk hk=>by
   obtain ⟨o,ho⟩:=Ba hk
   obtain ⟨o',h1,_⟩:=OwnLe.get hout k o ho
   exact Ab (Ah h1)
  have hko2:∀ k,k∈keysO outs→k∈nm0∨k∈new:=λk hk=>(hko k hk).imp (hkin k) id
  have hblk2:∀ k,k∈keysO outs→βo.blk k=β2.blk k:=λk hk=>by
   simp only [A6.blk]
   rw [hb' k (hko2 k hk)]
  have hlE:B5 (Eo E0 β2 st2.own) (Eo E0 βo outs) w' w':=by
   intro b _ h1
   refine ⟨?_,rfl⟩
   rintro (h2|⟨k,h2,h3⟩)
   ·exact h1 (.inl h2)
   ·rw [hblk2 k h2] at h3
    exact h1 (.inr ⟨k,hkey k h2,h3⟩)
  refine ⟨(hle2 _ _ _ _ hrel).lasts hlE (λk hk=>hb' k (hnr k (List.mem_append_left _ hk))),⟨λk o hk=>?_,hnd,λk k' h1 h2 hne b h3 h4=>?_,λk h1 b h3=>?_⟩,H2.kp,λk h1 b h3=>?_⟩
  ·obtain ⟨o',h1,h2⟩:=OwnLe.get hout k o hk
   exact (h2 _ _ _ _ (Bb H2 h1)).forget hlE (hb' k (hko2 k (Ab hk))) (λj hj=>hb' j (hnr j (List.mem_append_right _ (D3 hk j hj)))) (λ_ _=>rfl)
  ·rw [hblk2 k h1] at h3
   rw [hblk2 k' h2] at h4
   exact H2.own.apart k k' (hkey k h1) (hkey k' h2) hne b h3 h4
  ·rw [hblk2 k h1] at h3
   exact H2.own.lt k (hkey k h1) b h3
  ·rw [hblk2 k h1] at h3
   exact H2.fr k (hkey k h1) b h3
 cases e<;>simp at he<;>subst he
 ·exact fin hk
 ·exact hk.elim
 ·exact hk.elim
 ·exact fin hk
theorem M2 {P:Program} {f:FuncId} {fn:Func} {code:Code} {ca cb:C} {rs:List RV} {args:List V} {ins outs:List (Nat×Own)} {res:V} {new:List Nat} {nt:Nat}
  (hf:P.funcs[f]?=some fn) (hok:In P f=true) (hb:fn.body=some code) (hcc:Dg P fn.ntmps code=some (.seq ca cb)) (hrs:D2 P fn.results.toList=some rs) (hnt:fn.ntmps=nt) (hlen:args.length≤nt)
  (hB:P9 args ins res outs new=true) (h:∀ c:B3,c.P=P→c.fn=A5 args++A4 ins→B4 c ca ⟨initE 0 args,ins,A5 args++A4 ins⟩ (sr c cb (Ci c rs res outs))):Aj P f args ins res outs new:=by
 simp only [P9,Bool.and_eq_true,List.all_eq_true,Bool.or_eq_true,List.contains_iff_mem] at hB
 obtain ⟨h1,h2,h3,h4⟩:=hB
 exact W9 hf hok hb hcc hrs (hnt▸hlen) h1 h2 (E1 h3) h4 (λc e1 _ e2=>h c e1 e2)
end Go.Bx
end
