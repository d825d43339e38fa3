import Derived.Test.YtmccbkekpjgdbaaGreatXA8
import Derived.Shelf.Sort.Plain
import Derived.Shelf.Slices.In.SortNone
import Derived.Ground.Names2Prog
import Derived.Maps.RangeRun
set_option linter.unusedSimpArgs false
set_option linter.unusedVariables false
section
namespace Go.Proofs.YtmccbkekpjgdbaaGreat
open Go.Bx
set_option maxRecDepth 10000
def zCm:Cm:=⟨0,0,0,0,0,0⟩
def zFi:Fi:=⟨zCm,[]⟩
def putF (f:Fi) (a:Ac):Fi:=if putE f.cl f.ac a=0 then ⟨f.cl,f.ac++[a]⟩ else zFi
theorem vle_zFi {g:Nat→List D}:VLe (.ag [.d (.int .i64 0),.d (.int .i64 0),.d (.int .i64 0),.d (.int .i64 0),.d (.int .i64 0),.d (.int .i64 0),.d (.sl true 0 0 g)]) (vFi zFi):=vle_fi0 (c:=zCm)
theorem vle_snocA {l:List Ac} {a:Ac} {F:Nat→List D} (h1:∀ i,i<l.length→F i=dAc (l.getD i default)) (h2:F l.length=dAc a):VLe (.d (.sl false 3 (l.length+1) F)) (.d (slA (l++[a]))):=
 VLe.sl (by simp) (fun _=>rfl) id fun i hi=>by
  by_cases h:i<l.length
  ·rw [h1 i h,List.getD_eq_getElem?_getD,List.getD_eq_getElem?_getD,List.getElem?_append_left h]
  ·have:i=l.length:=by omega
   subst this
   rw [h2];simp [List.getD_eq_getElem?_getD]
theorem sCloneA (l:List Ac) (hl:l.length≤1000000):Ctr Tryz.prog 102 [.d (slA l)] [] (.osl 7) [(7,rowAk l)] [7]:=by
 have hb:l.length*24≤140737488355328∧l.length≤maxLen:=⟨by omega,by simp only [maxLen];omega⟩
 refine qO Tryz.func102 ?_
 intro c hP hfn
 simp only [namesL,V.names,ownNames,slA,vcd,↓vcp,seval]
 refine ⟨fun h=>?_,?_⟩
 ·have h':l=[]:=List.eq_nil_of_length_eq_zero h
  subst h'
  refine rK (Wk.row0 (s:=2) (k:=7) (e:=83) (sz:=3) (f':=fun i=>dAc (([]:List Ac).getD i default)) rfl rfl (by simp)) (by simp only [rowAk,enb,vcd,↓vcp,seval])
 ·repeat' first|refine ⟨fun h=>?_,fun h=>?_⟩|refine aX ?_|fail
  refine rK (Wk.refl _ _) ?_
  simp only [rowAk,enb,vcd,↓vcp,seval]
set_option maxHeartbeats 4000000 in
theorem sPutF (f:Fi) (a:Ac) (hl:f.ac.length≤1000000):Ctr Tryz.prog 137 [vFi f,vAc a] [] (.tup [vFi (putF f a),.d (.int .i64 (putE f.cl f.ac a))]) [] []:=by
 have cr:=sRightA a
 have cs:=sStand f hl
 have cl:=sLastA f hl
 have cc:=(sCloneA f.ac hl).sw 7 900
 simp only [vAc] at cr
 simp only [vFi,cFi,vQ,cQ] at cs
 simp only [vFi,cFi] at cl
 simp only [slA,rowAk,dAc,vcd,↓vcp,seval] at cc cs cl
 have fin:∀ e,putE f.cl f.ac a=e→e≠0→putF f a=zFi:=fun e h1 h2=>by rw [putF,if_neg (by rw [h1];exact h2)]
 cases h1:rightA a with
 |false =>
  have e:putE f.cl f.ac a=1:=by rw [putE,if_pos h1]
  rw [e,fin 1 e (by decide)]
  refine qP Tryz.func137 fun c hP hfn=>?_;simp only [vFi,cFi,vAc,slA,dAc,vcd,↓vcp,seval]
  repeat' first|(refine tq hP (h:=⟨_,fun _=>by first|exact cs|exact cr,?_⟩);try simp only [h1,vcd,↓vcp,seval])|refine ⟨fun h=>?_,fun h=>?_⟩|refine aX ?_|fail
  all_goals
   refine rp ?_
   simp only [rsb,vcd,↓vcp,seval]
   exact VLe.tups ⟨vle_zFi,VLe.refl _,trivial⟩
 |true =>
 by_cases h2:2000≤f.ac.length
 ·have d2:decide ((f.ac.length:Int)≥2000)=true:=decide_eq_true (by omega)
  have e:putE f.cl f.ac a=2:=by rw [putE,if_neg (by rw [h1];simp),if_pos h2]
  rw [e,fin 2 e (by decide)]
  refine qP Tryz.func137 fun c hP hfn=>?_;simp only [vFi,cFi,vAc,slA,dAc,vcd,↓vcp,seval]
  repeat' first|(refine tq hP (h:=⟨_,fun _=>by first|exact cs|exact cr,?_⟩);try simp only [h1,d2,vcd,↓vcp,seval])|refine ⟨fun h=>?_,fun h=>?_⟩|refine aX ?_|fail
  all_goals
   refine rp ?_
   simp only [rsb,vcd,↓vcp,seval]
   exact VLe.tups ⟨vle_zFi,VLe.refl _,trivial⟩
 have d2:decide ((f.ac.length:Int)≥2000)=false:=decide_eq_false (by omega)
 by_cases h3:a.bk<lastA f.cl f.ac
 ·have d3:decide (a.bk<lastA f.cl f.ac)=true:=decide_eq_true h3
  have e:putE f.cl f.ac a=4:=by rw [putE,if_neg (by rw [h1];simp),if_neg h2,if_pos h3]
  rw [e,fin 4 e (by decide)]
  refine qP Tryz.func137 fun c hP hfn=>?_;simp only [vFi,cFi,vAc,slA,dAc,vcd,↓vcp,seval]
  repeat' first|(refine tq hP (h:=⟨_,fun _=>by first|exact cs|exact cr|exact cl,?_⟩);try simp only [h1,d2,d3,vcd,↓vcp,seval])|refine ⟨fun h=>?_,fun h=>?_⟩|refine aX ?_|fail
  all_goals
   refine rp ?_
   simp only [rsb,vcd,↓vcp,seval]
   exact VLe.tups ⟨vle_zFi,VLe.refl _,trivial⟩
 have d3:decide (a.bk<lastA f.cl f.ac)=false:=decide_eq_false h3
 cases h4:(posQ f.ac).op == (a.kd == 5) with
 |true =>
  have e:putE f.cl f.ac a=10:=by rw [putE,if_neg (by rw [h1];simp),if_neg h2,if_neg h3,if_pos h4]
  rw [e,fin 10 e (by decide)]
  refine qP Tryz.func137 fun c hP hfn=>?_;simp only [vFi,cFi,vAc,slA,dAc,vcd,↓vcp,seval]
  repeat' first|(refine tq hP (h:=⟨_,fun _=>by first|exact cs|exact cr|exact cl,?_⟩);try simp only [h1,d2,d3,h4,vcd,↓vcp,seval])|refine ⟨fun h=>?_,fun h=>?_⟩|refine aX ?_|fail
  all_goals
   refine rp ?_
   simp only [rsb,vcd,↓vcp,seval]
   exact VLe.tups ⟨vle_zFi,VLe.refl _,trivial⟩
 |false =>
 have he:putE f.cl f.ac a=if overA (posQ f.ac) a=true then 5 else 0:=by rw [putE,if_neg (by rw [h1];simp),if_neg h2,if_neg h3,if_neg (by rw [h4];simp)]
 rw [overA] at he
 have hroom:(f.ac.length+1)*24≤140737488355328∧f.ac.length+1≤maxLen:=⟨by omega,by simp only [maxLen];omega⟩
 cases h5:(a.kd == 2)&&decide (a.am>IntKind.i64.wrap (1000000000000000-(posQ f.ac).sh)) with
 |true =>
  rw [h5,Bool.true_or,if_pos rfl] at he
  rw [he,fin 5 he (by decide)]
  refine qP Tryz.func137 fun c hP hfn=>?_;simp only [vFi,cFi,vAc,slA,dAc,vcd,↓vcp,seval]
  repeat' first|(refine tq hP (h:=⟨_,fun _=>by first|exact cs|exact cr|exact cl,?_⟩);try simp only [h1,d2,d3,h4,h5,vcd,↓vcp,seval])|refine ⟨fun h=>?_,fun h=>?_⟩|refine aX ?_|fail
  all_goals
   refine rp ?_
   simp only [rsb,vcd,↓vcp,seval]
   exact VLe.tups ⟨vle_zFi,VLe.refl _,trivial⟩
 |false =>
 rw [h5,Bool.false_or] at he
 cases h6:(a.kd == 3)&&decide (a.am>IntKind.i64.wrap (1000000000000000-(posQ f.ac).bc)) with
 |true =>
  rw [h6,if_pos rfl] at he
  rw [he,fin 5 he (by decide)]
  refine qP Tryz.func137 fun c hP hfn=>?_;simp only [vFi,cFi,vAc,slA,dAc,vcd,↓vcp,seval]
  repeat' first|(refine tq hP (h:=⟨_,fun _=>by first|exact cs|exact cr|exact cl,?_⟩);try simp only [h1,d2,d3,h4,h5,h6,vcd,↓vcp,seval])|refine ⟨fun h=>?_,fun h=>?_⟩|refine aX ?_|fail
  all_goals
   refine rp ?_
   simp only [rsb,vcd,↓vcp,seval]
   exact VLe.tups ⟨vle_zFi,VLe.refl _,trivial⟩
 |false =>
 rw [h6,if_neg (by simp)] at he
 rw [putF,if_pos he,he]
 refine qP Tryz.func137 fun c hP hfn=>?_;simp only [vFi,cFi,vAc,slA,dAc,vcd,↓vcp,seval]
 repeat' first|(refine tq hP (h:=⟨_,fun _=>by first|exact cs|exact cr|exact cl,?_⟩);try simp only [h1,d2,d3,h4,h5,h6,vcd,↓vcp,seval])|refine ⟨fun h=>?_,fun h=>?_⟩|refine aX ?_|fail
 refine TR.call [] [(900,rowAk f.ac)] _ [900] (by rw [hP];exact cc) (by repeat' first|exact trivial|(intro _;assumption)|apply And.intro) (by simp) (by simp [keysO]) (by simp [namesL,V.names,ownNames]) ?_
 simp only [rowAk,dAc,vcd,↓vcp,seval]
 repeat' first|refine ⟨fun h=>?_,fun h=>?_⟩|refine aX ?_|fail
 refine rK (Wk.pub 64 rfl) trivial ?_
 simp only [rsb,vcd,↓vcp,seval]
 exact VLe.tups ⟨VLe.ags ⟨VLe.refl _,VLe.refl _,VLe.refl _,VLe.refl _,VLe.refl _,VLe.refl _,vle_snocA (fun i hi=>by simp [hi,dAc]) (by simp [dAc]),trivial⟩,VLe.refl _,trivial⟩
end Go.Proofs.YtmccbkekpjgdbaaGreat
end
section
namespace Go.Proofs.YtmccbkekpjgdbaaGreat
open Go.Bx
set_option maxRecDepth 10000
def idxP {X:Type} (p:X→Bool):List X→Nat→Int
 |[],_=>-1
 |a::r,k=>if p a=true then (k:Int) else idxP p r (k+1)
theorem idxP_none {X:Type} (p:X→Bool):∀ (l:List X) (k:Nat),(∀ x,x∈l→p x=false)→idxP p l k=-1
 |[],_,_=>rfl
 |a::r,k,h=>by rw [idxP,if_neg (by rw [h a (by simp)];simp),idxP_none p r _ fun x hx=>h x (by simp [hx])]
theorem idxP_some {X:Type} (p:X→Bool):∀ (A:List X) (a:X) (B:List X) (k:Nat),(∀ x,x∈A→p x=false)→p a=true→idxP p (A++a::B) k=((k+A.length:Nat):Int)
 |[],a,B,k,_,ha=>by rw [List.nil_append,idxP,if_pos ha];rfl
 |x::A,a,B,k,h,ha=>by
  rw [List.cons_append,idxP,if_neg (by rw [h x (by simp)];simp),idxP_some p A a B _ (fun y hy=>h y (by simp [hy])) ha,List.length_cons]
  omega
theorem split_any {X:Type} (p:X→Bool):∀ l:List X,(∀ x,x∈l→p x=false)∨∃ A a B,l=A++a::B∧(∀ x,x∈A→p x=false)∧p a=true
 |[]=>.inl fun x hx=>by simp at hx
 |a::r=>by
  cases ha:p a with
  |true=>exact .inr ⟨[],a,r,rfl,fun x hx=>by simp at hx,ha⟩
  |false =>
   rcases split_any p r with h|⟨A,b,B,rfl,h1,h2⟩
   ·refine .inl fun x hx=>?_
    rcases List.mem_cons.1 hx with rfl|hx
    ·exact ha
    ·exact h x hx
   ·refine .inr ⟨a::A,b,B,rfl,fun x hx=>?_,h2⟩
    rcases List.mem_cons.1 hx with rfl|hx
    ·exact ha
    ·exact h1 x hx
theorem sAt1 (a:Ac) (d:Int):Ctr Tryz.prog 103 [vAc a,.mem [.int .i64 d]] [] (.d (.bool (decide (a.bk>d)))) [] []:=by
 refine qP Tryz.func103 fun c hP hfn=>?_;simp only [vAc,vcd,↓vcp,seval]
 repeat' first|refine ⟨fun h=>?_,fun h=>?_⟩|refine aX ?_|fail
 exact rr
theorem sIndexA {g:Nat} {ds:List D} {p:Ac→Bool} (hp:∀ a,Ctr Tryz.prog g [vAc a,.mem ds] [] (.d (.bool (p a))) [] []) (l:List Ac) (hl:l.length≤1000000) :
  Ctr Tryz.prog 151 [.osl 900,fnO g ds] [(900,rowAk l)] (.d (.int .i64 (idxP p l 0))) [(900,rowAk l)] []:=by
 refine qO Tryz.func151 ?_
 intro c hP hfn
 simp only [namesL,V.names,ownNames,rowAk,dAc,fnO,vcd,↓vcp,seval]
 refine vcC.loop (X:=Nat) (fun k=>⟨[(0,.osl 900),(1,fnO g ds),(7,.d (.int .i64 l.length)),(8,.d (.int .i64 (k:Nat)))],[(900,rowAk l)],[900]⟩)
  (fun k=>k≤l.length∧idxP p l 0=idxP p (l.drop k) k) (fun k=>l.length-k) 0 ⟨Nat.zero_le _,rfl⟩ (Wk.of _ hfn rfl (by simp only [fnO,enb,vcd,↓vcp,seval]) (by simp only [rowAk,dAc,enb,vcd,↓vcp,seval])) ?_
 rintro k ⟨hk,he⟩
 by_cases hlt:k<l.length
 ·obtain ⟨a,hd,hg,-,-⟩:=drop_at hlt
  have hg:=hg default
  have d0:decide ((k:Int)<(l.length:Int))=true:=decide_eq_true (by omega)
  have w1:IntKind.i64.wrap ((k:Int)+1)=((k+1:Nat):Int):=wS (by omega)
  have b1:(0:Int)≤(k:Int)∧(k:Int)<(l.length:Int):=by omega
  have cc:=hp a
  simp only [vAc] at cc
  rw [hd,idxP] at he
  simp only [rowAk,dAc,fnO,hg,d0,w1,vcd,↓vcp,seval]
  repeat' first|(refine tq hP (h:=⟨_,fun _=>by exact cc,?_⟩);try simp only [hg,w1,vcd,↓vcp,seval])|refine ⟨fun h=>?_,fun h=>?_⟩|refine aX ?_|fail
  ·rw [if_pos h] at he
   refine RetK.mk _ (Wk.refl _ _) (by simp only [rsb,vcd,↓vcp,seval]) (by simp only [rsb,vcd,↓vcp,seval,he,enb,vcd,↓vcp,seval]) ?_
   simp only [enb,vcd,↓vcp,seval]
  ·rw [if_neg (by rw [h];simp)] at he
   exact lopK.on (k+1) ⟨hlt,he⟩ (by omega) (Wk.of _ hfn rfl (by simp only [fnO,w1,enb,vcd,↓vcp,seval]) (by simp only [rowAk,dAc,enb,vcd,↓vcp,seval]))
 ·have hk2:k=l.length:=by omega
  have d0:decide ((k:Int)<(l.length:Int))=false:=decide_eq_false (by omega)
  rw [hk2,List.drop_length,idxP] at he
  simp only [rowAk,dAc,fnO,d0,vcd,↓vcp,seval]
  repeat' first|refine ⟨fun h=>?_,fun h=>?_⟩|refine aX ?_|fail
  refine RetK.mk _ (Wk.refl _ _) (by simp only [rsb,vcd,↓vcp,seval]) (by simp only [rsb,vcd,↓vcp,seval,he,enb,vcd,↓vcp,seval]) ?_
  simp only [enb,vcd,↓vcp,seval]
theorem filt_none {p:Ac→Bool} {l:List Ac} (h:∀ x,x∈l→p x=false):(l.filter fun a=>!(p a))=l:=List.filter_eq_self.2 fun x hx=>by rw [h x hx];rfl
theorem OLe.setA {e:Nat} {l:List Ac} {i:Nat} {a b:Ac} (hg:l.getD i default=b):OLe (.row e 3 l.length (fun m=>if m=i then putD (dAc b) 0 (dAc a) else dAc (l.getD m default))) (.row e 3 (l.set i a).length (fun m=>dAc ((l.set i a).getD m default))):=by
 refine OLe.row (by simp) fun m hm=>?_
 by_cases h:m=i
 ·subst h
  have:(l.set m a).getD m default=a:=by simp [List.getD_eq_getElem?_getD,List.getElem?_set,hm]
  rw [if_pos rfl,this];rfl
 ·have:(l.set i a).getD m default=l.getD m default:=by simp [List.getD_eq_getElem?_getD,List.getElem?_set,Ne.symm h]
  rw [if_neg h,this]
theorem sDel0 {g:Nat} {ds:List D} {p:Ac→Bool} (hp:∀ a,Ctr Tryz.prog g [vAc a,.mem ds] [] (.d (.bool (p a))) [] []) (l:List Ac) (hl:l.length≤1000000) (h:∀ x,x∈l→p x=false) :
  Ctr Tryz.prog 101 [.osl 900,fnO g ds] [(900,rowAk l)] (.osl 900) [(900,rowAk l)] []:=by
 have ci:=sIndexA hp l hl
 rw [idxP_none p l 0 h] at ci
 refine qO Tryz.func101 ?_
 intro c hP hfn
 simp only [rowAk,dAc,fnO] at ci
 have n1:((-1:Int) == -1)=true:=rfl
 simp only [namesL,V.names,ownNames,rowAk,dAc,fnO,vcd,↓vcp,seval]
 refine TR.call [(900,rowAk l)] [(900,rowAk l)] _ [] (by rw [hP];exact ci) (by repeat' first|exact trivial|(intro _;assumption)|apply And.intro) (hin1 rfl) (by simp [keysO]) (by simp) ?_
 simp only [rowAk,dAc,n1,vcd,↓vcp,seval]
 repeat' first|refine ⟨fun h=>?_,fun h=>?_⟩|refine aX ?_|fail
 refine rK (Wk.refl _ _) ?_
 simp only [enb,vcd,↓vcp,seval]
set_option maxHeartbeats 2000000 in
theorem sDel1 {g:Nat} {ds:List D} {p:Ac→Bool} (hp:∀ a,Ctr Tryz.prog g [vAc a,.mem ds] [] (.d (.bool (p a))) [] []) (A:List Ac) (x:Ac) (B:List Ac) (hl:(A++x::B).length≤1000000) (hA:∀ x,x∈A→p x=false) (hx:p x=true) :
  Ctr Tryz.prog 101 [.osl 900,fnO g ds] [(900,rowAk (A++x::B))] (.osl 901) [(901,rowAk ((A++x::B).filter fun a=>!(p a)))] [901]:=by
 have ci:=sIndexA hp (A++x::B) hl
 rw [idxP_some p A x B 0 hA hx,Nat.zero_add] at ci
 obtain ⟨l,hL⟩:∃ l,l=A++x::B:=⟨_,rfl⟩
 rw [←hL] at ci hl ⊢
 have hll:A.length<l.length:=by rw [hL];simp
 refine qO Tryz.func101 ?_
 intro c hP hfn
 simp only [rowAk,dAc,fnO] at ci
 have n1:((A.length:Int) == -1)=false:=by rw [beq_eq_false_iff_ne];omega
 have w0:IntKind.i64.wrap ((A.length:Int)+1)=((A.length+1:Nat):Int):=wS (by omega)
 simp only [namesL,V.names,ownNames,rowAk,dAc,fnO,vcd,↓vcp,seval]
 refine TR.call [(900,rowAk l)] [(900,rowAk l)] _ [] (by rw [hP];exact ci) (by repeat' first|exact trivial|(intro _;assumption)|apply And.intro) (hin1 rfl) (by simp [keysO]) (by simp) ?_
 simp only [rowAk,dAc,n1,w0,vcd,↓vcp,seval]
 repeat' first|refine ⟨fun h=>?_,fun h=>?_⟩|refine aX ?_|fail
 refine vcC.loop (X:=Nat×List Ac) (fun y=>⟨[(0,.osl 900),(1,fnO g ds),(5,.d (.int .i64 ((((l.take y.1).filter fun a=>!(p a)).length:Nat):Int))),(6,.d (.int .i64 (y.1:Nat)))],[(900,rowAk y.2)],[900]⟩)
  (fun y=>y.1≤l.length∧((l.take y.1).filter fun a=>!(p a)).length<y.1∧y.2.length=l.length∧y.2.drop y.1=l.drop y.1∧y.2.take ((l.take y.1).filter fun a=>!(p a)).length=(l.take y.1).filter fun a=>!(p a)) (fun y=>l.length-y.1) (A.length+1,l) ?_ ?_ ?_
 ·have e:l.take (A.length+1)=A++[x]:=by rw [hL,List.take_length_add_append];rfl
  have e2:((A++[x]).filter fun a=>!(p a))=A:=by rw [List.filter_append,filt_none hA];simp [hx]
  refine ⟨hll,?_,rfl,rfl,?_⟩
  ·simp only [e,e2];omega
  ·simp only [e,e2];rw [hL];simp
 ·have e:l.take (A.length+1)=A++[x]:=by rw [hL,List.take_length_add_append];rfl
  have e2:((A++[x]).filter fun a=>!(p a))=A:=by rw [List.filter_append,filt_none hA];simp [hx]
  refine Wk.of _ hfn rfl ?_ (by simp only [rowAk,dAc,enb,vcd,↓vcp,seval])
  simp only [e,e2,fnO,w0,enb,vcd,↓vcp,seval]
 rintro ⟨j,r⟩ ⟨h1,h2,h3,h4,h5⟩
 simp only at h1 h2 h3 h4 h5
 obtain ⟨i,hi⟩:∃ i,i=((l.take j).filter fun a=>!(p a)).length:=⟨_,rfl⟩
 rw [←hi] at h2 h5
 simp only [←hi]
 by_cases hlt:j<l.length
 ·obtain ⟨a,hd,-,hm,hat⟩:=drop_at hlt
  have hg:r.getD j default=a:=by
   have e:r[j]?=l[j]?:=by
    have e1:=congrArg (fun q=>q[0]?) h4
    simpa [List.getElem?_drop] using e1
   rw [List.getD_eq_getElem?_getD,e,hat];rfl
  have d0:decide ((j:Int)<(r.length:Int))=true:=decide_eq_true (by omega)
  have w1:IntKind.i64.wrap ((j:Int)+1)=((j+1:Nat):Int):=wS (by omega)
  have w2:IntKind.i64.wrap ((i:Int)+1)=((i+1:Nat):Int):=wS (by omega)
  have b1:(0:Int)≤(j:Int)∧(j:Int)<(r.length:Int):=by omega
  have b2:(0:Int)≤(i:Int)∧(i:Int)<(r.length:Int):=by omega
  have cc:=hp a
  simp only [vAc] at cc
  have ht:l.take (j+1)=l.take j++[a]:=by rw [List.take_add_one,hat];rfl
  obtain ⟨b,hb⟩:∃ b,r.getD i default=b:=⟨_,rfl⟩
  cases hpa:p a with
  |false =>
   have hf:((l.take (j+1)).filter fun a=>!(p a))=((l.take j).filter fun a=>!(p a))++[a]:=by rw [ht,List.filter_append];simp [hpa]
   have hfl:(((l.take (j+1)).filter fun a=>!(p a)).length)=i+1:=by rw [hf,List.length_append,←hi];rfl
   rw [hpa] at cc
   simp only [rowAk,dAc,fnO,hg,d0,w1,w2,vcd,↓vcp,seval]
   repeat' first|(refine tq hP (h:=⟨_,fun _=>by exact cc,?_⟩);try simp only [hg,w1,w2,vcd,↓vcp,seval])|refine ⟨fun h=>?_,fun h=>?_⟩|refine aX ?_|fail
   refine lopK.on (j+1,r.set i a) ⟨hlt,by simp only [hfl];omega,by simp [h3],?_,?_⟩ (by simp only;omega) (Wk.of _ hfn rfl (by simp only [hfl,fnO,w1,w2,enb,vcd,↓vcp,seval]) ?_)
   ·simp only
    rw [List.drop_set_of_lt (by omega),←List.drop_drop,h4,List.drop_drop]
   ·simp only [hfl]
    rw [hf,←h5]
    apply List.ext_getElem?
    intro m
    simp only [List.getElem?_take,List.getElem?_append,List.length_take,List.getElem?_set]
    by_cases m1:m<i
    ·simp [m1,show m<i+1 by omega,show ¬ i=m by omega,show m<r.length by omega];intro hh;omega
    ·by_cases m2:m=i
     ·subst m2;simp [show min m r.length=m by omega,show m<r.length by omega]
     ·simp [show ¬ m<i+1 by omega,show min i r.length=i by omega,m1];omega
   ·simp only [rowAk,enb,vcd,↓vcp,seval]
    exact OLe.setA rfl
  |true =>
   have hf:((l.take (j+1)).filter fun a=>!(p a))=((l.take j).filter fun a=>!(p a)):=by rw [ht,List.filter_append];simp [hpa]
   rw [hpa] at cc
   simp only [rowAk,dAc,fnO,hg,d0,w1,vcd,↓vcp,seval]
   repeat' first|(refine tq hP (h:=⟨_,fun _=>by exact cc,?_⟩);try simp only [hg,w1,vcd,↓vcp,seval])|refine ⟨fun h=>?_,fun h=>?_⟩|refine aX ?_|fail
   refine lopK.on (j+1,r) ⟨hlt,by simp only [hf,←hi];omega,h3,?_,by simp only [hf,←hi];exact h5⟩ (by simp only;omega) (Wk.of _ hfn rfl (by simp only [hf,←hi,fnO,w1,enb,vcd,↓vcp,seval]) (by simp only [rowAk,dAc,enb,vcd,↓vcp,seval]))
   simp only
   rw [←List.drop_drop,h4,List.drop_drop]
 ·have hjl:j=l.length:=by omega
  have d0:decide ((j:Int)<(r.length:Int))=false:=decide_eq_false (by omega)
  have hT:(l.take j).filter (fun a=>!(p a))=l.filter fun a=>!(p a):=by rw [hjl,List.take_length]
  rw [hT] at hi h5
  have b1:(0:Int)≤(i:Int)∧(i:Int)≤(r.length:Int):=by omega
  simp only [rowAk,dAc,fnO,d0,vcd,↓vcp,seval]
  repeat' first|refine ⟨fun h=>?_,fun h=>?_⟩|refine aX ?_|fail
  refine rK (Wk.shr 900 901 i rfl (by omega) (by simp)) ?_
  simp only [enb,vcd,↓vcp,seval]
  refine OLe.row hi fun m hm=>?_
  have e:(l.filter fun a=>!(p a)).getD m default=r.getD m default:=by
   rw [←h5,List.getD_eq_getElem?_getD,List.getD_eq_getElem?_getD,List.getElem?_take,if_pos hm]
  rw [if_neg (by omega),e]
end Go.Proofs.YtmccbkekpjgdbaaGreat
end
section
namespace Go.Proofs.YtmccbkekpjgdbaaGreat
open Go.Bx
set_option maxRecDepth 10000
theorem known_eq (f:Fi) (d:Int):knownF d f=⟨f.cl,f.ac.filter fun a=>!(decide (a.bk>d))⟩:=by
 rw [knownF]
 congr 1
 refine List.filter_congr fun a _=>?_
 rw [Bool.eq_iff_iff];simp
set_option maxHeartbeats 2000000 in
theorem sAtF (f:Fi) (d:Int) (hl:f.ac.length≤1000000):Ctr Tryz.prog 56 [vFi f,.d (.int .i64 d)] [] (vFi (knownF d f)) [] []:=by
 have cc:=(sCloneA f.ac hl).sw 7 900
 simp only [slA,rowAk,dAc,vcd,↓vcp,seval] at cc
 rw [known_eq]
 rcases split_any (fun a:Ac=>decide (a.bk>d)) f.ac with h|⟨A,x,B,h0,h1,h2⟩
 ·have cd:=sDel0 (fun a=>sAt1 a d) f.ac hl h
  rw [filt_none h]
  simp only [rowAk,dAc,fnO] at cd
  refine qP Tryz.func56 fun c hP hfn=>?_;simp only [vFi,cFi,slA,dAc,vcd,↓vcp,seval]
  repeat' first|refine ⟨fun h=>?_,fun h=>?_⟩|refine aX ?_|fail
  refine TR.call [] [(900,rowAk f.ac)] _ [900] (by rw [hP];exact cc) (by repeat' first|exact trivial|(intro _;assumption)|apply And.intro) (by simp) (by simp [keysO]) (by simp [namesL,V.names,ownNames]) ?_
  simp only [rowAk,dAc,vcd,↓vcp,seval]
  repeat' first|refine ⟨fun h=>?_,fun h=>?_⟩|refine aX ?_|fail
  refine TR.wk _ (Wk.pubF 3 rfl rfl) ?_
  simp only [vcd,↓vcp,seval]
  refine TR.call [(900,rowAk f.ac)] [(900,rowAk f.ac)] _ [] (by rw [hP];exact cd) (by repeat' first|exact trivial|(intro _;assumption)|apply And.intro) (hin1 rfl) (by simp [keysO]) (by simp) ?_
  simp only [rowAk,dAc,vcd,↓vcp,seval]
  repeat' first|refine ⟨fun h=>?_,fun h=>?_⟩|refine aX ?_|fail
  refine rK (Wk.pub 900 rfl) trivial ?_
  simp only [vFi,cFi,slA,dAc,rsb,vcd,↓vcp,seval]
  exact VLe.refl _
 ·have cd:=sDel1 (fun a=>sAt1 a d) A x B (by rw [←h0];exact hl) h1 h2
  rw [←h0] at cd
  simp only [rowAk,dAc,fnO] at cd
  obtain ⟨L,hL⟩:∃ L,L=f.ac.filter fun a=>!(decide (a.bk>d)):=⟨_,rfl⟩
  rw [←hL] at cd ⊢
  refine qP Tryz.func56 fun c hP hfn=>?_;simp only [vFi,cFi,slA,dAc,vcd,↓vcp,seval]
  repeat' first|refine ⟨fun h=>?_,fun h=>?_⟩|refine aX ?_|fail
  refine TR.call [] [(900,rowAk f.ac)] _ [900] (by rw [hP];exact cc) (by repeat' first|exact trivial|(intro _;assumption)|apply And.intro) (by simp) (by simp [keysO]) (by simp [namesL,V.names,ownNames]) ?_
  simp only [rowAk,dAc,vcd,↓vcp,seval]
  repeat' first|refine ⟨fun h=>?_,fun h=>?_⟩|refine aX ?_|fail
  refine TR.wk _ (Wk.pubF 3 rfl rfl) ?_
  simp only [vcd,↓vcp,seval]
  refine TR.call [(900,rowAk f.ac)] [(901,rowAk L)] _ [901] (by rw [hP];exact cd) (by repeat' first|exact trivial|(intro _;assumption)|apply And.intro) (hin1 rfl) (by simp [keysO]) (by simp [namesL,V.names,ownNames]) ?_
  simp only [rowAk,dAc,vcd,↓vcp,seval]
  repeat' first|refine ⟨fun h=>?_,fun h=>?_⟩|refine aX ?_|fail
  refine rK (Wk.pub 901 rfl) trivial ?_
  simp only [vFi,cFi,slA,dAc,rsb,vcd,↓vcp,seval]
  exact VLe.refl _
def dFi (f:Fi):List D:=[.int .i64 f.cl.id,.int .i64 f.cl.po,.int .i64 f.cl.pe,.int .i64 f.cl.lo,.int .i64 f.cl.bk,.int .i64 f.cl.ev,slA f.ac]
def slF (l:List Fi):D:=.sl false 7 l.length (fun i=>dFi (l.getD i default))
def rowF (l:List Fi):Go.Bx.Own:=.row 79 7 l.length (fun i=>dFi (l.getD i default))
def ShF (l:List Fi):Prop:=l.length≤100000∧∀ f,f∈l→f.ac.length≤100000
theorem knownL_take (l:List Fi) (d:Int) (k:Nat) (f:Fi) (h:l[k]?=some f):knownL (l.take (k+1)) d=knownL (l.take k) d++(if f.cl.bk≤d then [knownF d f] else []):=by
 rw [List.take_add_one,h,knownL,knownL,List.filter_append,List.map_append]
 congr 1
 by_cases hb:f.cl.bk≤d<;>simp [hb]
theorem knownL_len (l:List Fi) (d:Int):(knownL l d).length≤l.length:=by
 rw [knownL,List.length_map];exact List.length_filter_le _ _
theorem OLe.appE {X:Type} [Inhabited X] (cells:X→List D) {e sz:Nat} {l l':List X} {x:X} {F:Nat→List D} (hl:l'=l++[x]) (h1:∀ i,i<l.length→F i=cells (l.getD i default)) (h2:F l.length=cells x):OLe (.row e sz (l.length+1) F) (.row e sz l'.length (fun i=>cells (l'.getD i default))):=by
 subst hl;exact OLe.app1 cells h1 h2
set_option maxHeartbeats 2000000 in
theorem sKnownF (l:List Fi) (d:Int) (hl:ShF l):Ctr Tryz.prog 25 [.d (slF l),.d (.int .i64 d)] [] (.d (slF (knownL l d))) [] []:=by
 obtain ⟨hl,hs⟩:=hl
 refine qP Tryz.func25 fun c hP hfn=>?_;simp only [slF,dFi,vcd,↓vcp,seval]
 refine vcC.loop (X:=Nat) (fun k=>⟨[(5,.osl 1000),(1,.d (.int .i64 d)),(8,.d (slF l)),(9,.d (.int .i64 l.length)),(10,.d (.int .i64 (k:Nat)))],[(1000,rowF (knownL (l.take k) d))],[1000]⟩)
  (fun k=>k≤l.length) (fun k=>l.length-k) 0 (Nat.zero_le _) ?_ ?_
 ·refine (Wk.row0 (s:=5) (k:=1000) (e:=79) (sz:=7) (f':=fun _=>[]) rfl rfl (by simp)).trans (Wk.of _ hfn rfl ?_ ?_)
  ·simp only [slF,dFi,enb,vcd,↓vcp,seval]
  ·simp only [rowF,List.take_zero,enb,vcd,↓vcp,seval];exact OLe.row rfl (fun i hi=>absurd hi (Nat.not_lt_zero i))
 intro k hk
 by_cases hlt:k<l.length
 ·obtain ⟨f,-,hg,hm,hat⟩:=drop_at hlt
  have hg:=hg default
  have d0:decide ((k:Int)<(l.length:Int))=true:=decide_eq_true (by omega)
  have w1:IntKind.i64.wrap ((k:Int)+1)=((k+1:Nat):Int):=wS (by omega)
  have ca:=sAtF f d (by have:=hs f hm;omega)
  have hkt:=knownL_take l d k f hat
  have hkl:=knownL_len (l.take k) d
  rw [List.length_take] at hkl
  obtain ⟨K,hK⟩:∃ K,K=knownL (l.take k) d:=⟨_,rfl⟩
  rw [←hK] at hkt hkl
  have hroom:(K.length+1)*72≤140737488355328∧K.length+1≤maxLen:=⟨by omega,by simp only [maxLen];omega⟩
  simp only [vFi,cFi] at ca
  by_cases hb:f.cl.bk≤d
  ·have d1:decide (f.cl.bk≤d)=true:=decide_eq_true hb
   rw [if_pos hb] at hkt
   simp only [←hK,rowF,slF,dFi,hg,d0,d1,w1,vcd,↓vcp,seval]
   repeat' first|(refine tq hP (h:=⟨_,fun _=>by exact ca,?_⟩);try simp only [hg,w1,d1,vcd,↓vcp,seval])|refine ⟨fun h=>?_,fun h=>?_⟩|refine aX ?_|fail
   exact lopK.on (k+1) hlt (by omega) (Wk.snoc (k:=24) _ hfn rfl rfl rfl rfl (OLe.appE dFi hkt (fun i hi=>by simp [hi,dFi]) (by simp [litRow,dFi])) (by (simp only [slF,dFi,w1,enb,vcd,↓vcp,seval])<;>(first|exact wS (by omega)|(rw [List.length_append];exact wS (by omega))|assumption)) (by simp only [enb,vcd,↓vcp,seval]) (by simp) (by simp only [enb,vcd,↓vcp,seval]) (by simp only [enb,vcd,↓vcp,seval]))
  ·have d1:decide (f.cl.bk≤d)=false:=decide_eq_false hb
   rw [if_neg hb,List.append_nil] at hkt
   simp only [←hK,rowF,slF,dFi,hg,d0,d1,w1,vcd,↓vcp,seval]
   repeat' first|refine ⟨fun h=>?_,fun h=>?_⟩|refine aX ?_|fail
   exact lopK.on (k+1) hlt (by omega) (Wk.of _ hfn rfl (by simp only [slF,dFi,w1,enb,vcd,↓vcp,seval]) (by simp only [hkt,rowF,dFi,enb,vcd,↓vcp,seval]))
 ·have hk2:k=l.length:=by omega
  have d0:decide ((k:Int)<(l.length:Int))=false:=decide_eq_false (by omega)
  rw [hk2,List.take_length]
  rw [hk2] at d0
  simp only [rowF,slF,dFi,d0,vcd,↓vcp,seval]
  repeat' first|refine ⟨fun h=>?_,fun h=>?_⟩|refine aX ?_|fail
  refine rK (Wk.pub 1000 rfl) trivial ?_
  simp only [slF,dFi,rsb,vcd,↓vcp,seval]
  exact VLe.refl _
end Go.Proofs.YtmccbkekpjgdbaaGreat
end
section
namespace Go.Proofs.YtmccbkekpjgdbaaGreat
open Go.ChangeShapes Go.WideShapes Go.ChangeAt Go.RowKit Go.Bx
theorem cover_reads:Reads Tryz.prog 23 5 (fun c:Cv=>[.int .i64 c.pe,.int .i64 c.li,.int .i64 c.ag,.int .i64 c.de,.int .i64 c.sh]) (fun c=>I64 c.li∧I64 c.ag∧I64 c.sh):=
 (Reads.struct Tryz.underlying23 (FR.cons rfl int_reads (FR.cons rfl int_reads (FR.cons rfl int_reads (FR.cons rfl int_reads (FR.cons rfl int_reads FR.nil))))) (by kernel_rfl)).map (fun x=>⟨x.1,x.2.1,x.2.2.1,x.2.2.2.1,x.2.2.2.2.1⟩) _ _ (fun _=>rfl) (fun _=>rfl) (fun _ h=>⟨h.2.1,h.2.2.1,h.2.2.2.2.1⟩)
theorem act_reads:Reads Tryz.prog 83 3 dAc (fun _=>True):=
 (Reads.struct Tryz.underlying83 (FR.cons rfl int_reads (FR.cons rfl int_reads (FR.cons rfl int_reads FR.nil))) (by kernel_rfl)).map (fun x=>⟨x.1,x.2.1,x.2.2.1⟩) _ _ (fun _=>rfl) (fun _=>rfl) (fun _ _=>trivial)
theorem acts_reads:Reads Tryz.prog 77 1 (fun l:List Ac=>[slA l]) (fun l=>l.length≤9223372036854775807):=
 (act_reads.slice Tryz.underlying77 (by kernel_rfl) (by decide)).map id _ _ (fun _=>rfl) (fun _=>rfl) (fun _ h=>h.1)
theorem claim_reads:Reads Tryz.prog 76 6 (fun c:Cm=>[.int .i64 c.id,.int .i64 c.po,.int .i64 c.pe,.int .i64 c.lo,.int .i64 c.bk,.int .i64 c.ev]) (fun _=>True):=
 (Reads.struct Tryz.underlying76 (FR.cons rfl int_reads (FR.cons rfl int_reads (FR.cons rfl int_reads (FR.cons rfl int_reads (FR.cons rfl int_reads (FR.cons rfl int_reads FR.nil)))))) (by kernel_rfl)).map (fun x=>⟨x.1,x.2.1,x.2.2.1,x.2.2.2.1,x.2.2.2.2.1,x.2.2.2.2.2.1⟩) _ _ (fun _=>rfl) (fun _=>rfl) (fun _ _=>trivial)
theorem file_reads:Reads Tryz.prog 79 7 dFi (fun f=>f.ac.length≤9223372036854775807):=
 (Reads.struct Tryz.underlying79 (FR.cons rfl claim_reads (FR.cons rfl acts_reads FR.nil)) (by kernel_rfl)).map (fun x=>⟨x.1,x.2.1⟩) _ _ (fun _=>rfl) (fun _=>rfl) (fun _ h=>h.2.1)
theorem files_reads:Reads Tryz.prog 24 1 (fun l:List Fi=>[slF l]) (fun l=>l.length≤9223372036854775807∧∀ f,f∈l→f.ac.length≤9223372036854775807):=
 (file_reads.slice Tryz.underlying24 (by kernel_rfl) (by decide)).map id _ _ (fun _=>rfl) (fun _=>rfl) (fun _ h=>h)
end Go.Proofs.YtmccbkekpjgdbaaGreat
end
section
namespace Go.Proofs.YtmccbkekpjgdbaaGreat
open Go.Shelf Go.Proofs Go.Bx
theorem lq {X:Type}{o:Option X}{a b:X}(h:o=some a)(e:a=b:=by kernel_rfl):o=some b:=h.trans (congrArg some e)
def lays189_ren : Go.Shelf.Ren := ⟨fun |189=>55|125=>100|257=>99|128=>149|129=>150|294=>141|295=>142|296=>143|297=>144|298=>145|299=>146|216=>104|300=>147|301=>148|328=>175|329=>176|330=>177|331=>178|332=>179|215=>96|343=>186|n=>n,fun |28=>31|3=>3|46=>186|0=>0|51=>236|53=>238|4=>4|183=>230|182=>229|131=>137|5=>5|9=>9|218=>253|222=>257|228=>264|229=>265|n=>n,fun |n=>n⟩
theorem lays189 : Lays.n189 Tryz.prog lays189_ren := {
  mixed:=by kernel_rfl,f125:=lq Tryz.func100,f128:=lq Tryz.func149,f129:=lq Tryz.func150,f189:=lq Tryz.func55,f215:=lq Tryz.func96,f216:=lq Tryz.func104,f257:=lq Tryz.func99,f294:=lq Tryz.func141,f295:=lq Tryz.func142,f296:=lq Tryz.func143,f297:=lq Tryz.func144,f298:=lq Tryz.func145,f299:=lq Tryz.func146,f300:=lq Tryz.func147,f301:=lq Tryz.func148,
  f328:=lq Tryz.func175,f329:=lq Tryz.func176,f330:=lq Tryz.func177,f331:=lq Tryz.func178,f332:=lq Tryz.func179,f343:=lq Tryz.func186,t0:=Tryz.underlying0,a0:=Tryz.isAgg0,z0:=Tryz.sizeOf0,v0:=Tryz.zeroValue0,t3:=Tryz.underlying3,a3:=Tryz.isAgg3,z3:=Tryz.sizeOf3,v3:=Tryz.zeroValue3,t4:=Tryz.underlying4,a4:=Tryz.isAgg4,
  z4:=Tryz.sizeOf4,v4:=Tryz.zeroValue4,t5:=Tryz.underlying5,a5:=Tryz.isAgg5,z5:=Tryz.sizeOf5,v5:=Tryz.zeroValue5,t9:=Tryz.underlying9,a9:=Tryz.isAgg9,z9:=Tryz.sizeOf9,v9:=Tryz.zeroValue9,t28:=Tryz.underlying31,a28:=Tryz.isAgg31,z28:=Tryz.sizeOf31,v28:=Tryz.zeroValue31,t46:=Tryz.underlying186,a46:=Tryz.isAgg186,
  z46:=Tryz.sizeOf186,v46:=Tryz.zeroValue186,t51:=Tryz.underlying236,a51:=Tryz.isAgg236,z51:=Tryz.sizeOf236,v51:=Tryz.zeroValue236,t53:=Tryz.underlying238,a53:=Tryz.isAgg238,z53:=Tryz.sizeOf238,v53:=Tryz.zeroValue238,t131:=Tryz.underlying137,a131:=Tryz.isAgg137,z131:=Tryz.sizeOf137,v131:=Tryz.zeroValue137,t182:=Tryz.underlying229,a182:=Tryz.isAgg229,
  z182:=Tryz.sizeOf229,v182:=Tryz.zeroValue229,t183:=Tryz.underlying230,a183:=Tryz.isAgg230,z183:=Tryz.sizeOf230,v183:=Tryz.zeroValue230,t218:=Tryz.underlying253,a218:=Tryz.isAgg253,z218:=Tryz.sizeOf253,v218:=Tryz.zeroValue253,t222:=Tryz.underlying257,a222:=Tryz.isAgg257,z222:=Tryz.sizeOf257,v222:=Tryz.zeroValue257,t228:=Tryz.underlying264,a228:=Tryz.isAgg264,
  z228:=Tryz.sizeOf264,v228:=Tryz.zeroValue264,t229:=Tryz.underlying265,a229:=Tryz.isAgg265,z229:=Tryz.sizeOf265,v229:=Tryz.zeroValue265 }
def sortI (l:List Int):List Int:=l.mergeSort fun x y=>decide (x≤y)
theorem sSortI (l:List Int) (hl:l.length≤1000000):Ctr Tryz.prog 55 [.osl 900] [(900,rowZ l)] (.tup []) [(900,rowZ (sortI l))] []:=by
 refine ⟨ok55,by simp [keysO],by simp,fun E0 β w vals hE hsz hv hins hnn=>?_⟩
 obtain ⟨v,rfl⟩:∃ v,vals=#[v]:=by
  match vals,hsz with
  |⟨[v]⟩,_=>exact ⟨v,rfl⟩
 have h1:=hv 0 v (.osl 900) rfl rfl
 obtain ⟨v',xs,q1,⟨hx,hrow⟩,hlen,hcell⟩:=hins.ok 900 (rowZ l) (by simp)
 obtain rfl:v=v':=by
  cases h1 with
  |osl k u h _=>rw [h] at q1;injection q1
 rcases hrow with ⟨⟨a,rfl⟩,h0⟩|⟨g,cap,cur,rfl,hc0,hheap,hn,hcm,hcs,htake⟩
 ·have e0:l=[]:=List.eq_nil_of_length_eq_zero h0
  subst e0
  refine (Any.slices_Sort_int_none lays189 a 0 w).mono ?_
  rintro e w' ⟨rfl,rfl⟩
  have es:sortI []=[]:=by simp [sortI]
  rw [es]
  refine ⟨_,β,rfl,Names.le.refl β,fun _ _=>rfl,.tup _ _ rfl (fun j v x h=>by simp at h),hins,Keeps.refl _ _,fun k hk b hb=>.inr ⟨k,hk,hb⟩⟩
 ·have hH:Go.Sort.Holds (Value.int .i64) w g 0 l.toArray:=by
   intro j hj
   have hj':j<l.length:=by simpa using hj
   obtain ⟨u,g1,g2⟩:=hcell j 0 hj' (by decide) _ rfl
   have hu:u=.int .i64 (l.getD j 0):=by cases g2;rfl
   rw [←htake,Nat.mul_one,Nat.mul_one,Nat.add_zero,List.getElem?_take_of_lt hj',Array.getElem?_toList] at g1
   rw [Nat.zero_add]
   refine ⟨?_,by simp [World.frozen?,hheap]⟩
   simp only [World.cell?,hheap,g1,hu]
   simp [List.getD_eq_getElem?_getD,hj']
  have hg:g<w.heap.size:=(Array.getElem?_eq_some_iff.1 hheap).1
  refine (Any.slices_Sort_int lays189 g 0 cap l w hH hg (by omega)).mono ?_
  rintro e w' ⟨rfl,n,os,rfl⟩
  have hbk:β.blk 900=some g:=by simp [Names.blk,q1,blkOf];omega
  obtain ⟨W,eW⟩:∃ W,W=Go.Sort.grow (Go.Sort.putRow (Value.int .i64) (Go.Sort.ahead w n) g 0 (l.mergeSort fun x y=>decide (x≤y)).toArray) os:=⟨_,rfl⟩
  have hw:∀ b,b<w.heap.size→W.heap[b]?=if b=g then some (.cells (Go.Sort.putCells (Value.int .i64) 0 (sortI l).toArray cur) 3 (0,0)) else w.heap[b]?:=fun b hb=>by
   rw [eW,Go.Sort.heap_grow_old _ _ (by simpa [Go.Sort.ahead] using hb)]
   by_cases e:b=g
   ·subst e
    simp [Go.Sort.putRow,Go.Sort.mapBlock,Go.Sort.ahead,Array.getElem?_modify,hheap,Go.Sort.onCells,sortI]
   ·simp [Go.Sort.putRow,Go.Sort.mapBlock,Go.Sort.ahead,Array.getElem?_modify,e,Ne.symm e]
  have hsz2:w.heap.size≤W.heap.size:=by rw [eW];simp [Go.Sort.ahead]
  have hK:W.os=w.os∧W.tape=w.tape∧W.output=w.output:=by rw [eW];exact ⟨rfl,rfl,rfl⟩
  rw [←eW]
  clear eW
  have hsl:(sortI l).length=l.length:=by simp [sortI]
  refine ⟨_,β,rfl,Names.le.refl β,fun _ _=>rfl,.tup _ _ rfl (fun j v x h=>by simp at h),⟨fun k o hm=>?_,by simp [keysO],fun k k' h1 h2 hne=>?_,fun k hk b hb=>?_⟩,⟨hK.1,hK.2.1,hK.2.2,hsz2,fun b hb hnb=>?_⟩,fun k hk b hb=>.inr ⟨k,hk,hb⟩⟩
  ·simp only [List.mem_singleton,Prod.mk.injEq] at hm
   obtain ⟨rfl,rfl⟩:=hm
   refine ⟨_,(Go.Sort.putCells (Value.int .i64) 0 (sortI l).toArray cur).toList.take l.length,q1,⟨?_,.inr ⟨g,cap,_,by rw [hsl],hc0,by rw [hw g hg,if_pos rfl],by rw [hsl];exact hn,hcm,?_,by rw [hsl,Nat.mul_one]⟩⟩,fun i hi=>rfl,fun i j hi hj x hx'=>?_⟩
   ·simp [Go.Sort.putCells,hsl];omega
   ·simp [Go.Sort.putCells];omega
   ·have hi':i<(sortI l).length:=hi
    obtain rfl:j=0:=by omega
    simp only [List.getElem?_cons_zero,Option.some.injEq] at hx'
    subst hx'
    have hic:i<cur.size:=by omega
    refine ⟨.int .i64 ((sortI l).getD i 0),?_,.int _ _⟩
    rw [Nat.mul_one,Nat.add_zero,List.getElem?_take_of_lt (by omega),Array.getElem?_toList]
    simp only [Go.Sort.putCells,Array.getElem?_mapIdx,Array.getElem?_eq_getElem hic,Option.map_some,List.size_toArray]
    rw [if_pos ⟨Nat.zero_le _,by omega⟩]
    simp [List.getD_eq_getElem?_getD,hi']
  ·simp [keysO] at h1 h2;omega
  ·have:=hins.lt k (by simpa [keysO] using hk) b hb
   exact ⟨by omega,this.2⟩
  ·rw [hw b hb,if_neg]
   rintro rfl
   exact hnb ⟨900,by simp [keysO],hbk⟩
end Go.Proofs.YtmccbkekpjgdbaaGreat
end
section
namespace Go.Proofs.YtmccbkekpjgdbaaGreat
open Go.Bx
open Go.ChangeMaps (setBlock)
set_option maxRecDepth 10000
theorem vcT.seqK {c:Ctx} {ca cb:Code} {st:St} {K:Kont} (h:vcT c ca st fun e st'=>match e with|.nrm=>vcT c cb st' K|e=>K e st'):vcT c (.seq ca cb) st K:=by
 intro β a w H
 refine wpIn_seq (wpIn_mono (h β a w H) ?_)
 rintro e a' w' (⟨ex,hx,β',st',hk,H'⟩|⟨ch,rfl,hpan⟩)
 rotate_left
 ·exact .inr ⟨ch,rfl,hpan⟩
 cases e<;>simp at hx<;>subst hx
 ·exact hk β' a' w' H'
 ·exact .inl ⟨_,rfl,β',st',hk,H'⟩
 ·exact .inl ⟨_,rfl,β',st',hk,H'⟩
 ·exact .inl ⟨_,rfl,β',st',hk,H'⟩
theorem vcT.wk {c:Ctx} {code:Code} {st st1:St} {K:Kont} (hw:Wk c st st1) (h:vcT c code st1 K):vcT c code st K:=fun β a w H=>by
 obtain ⟨β2,H2⟩:=hw β a w H
 exact h β2 a w H2
def keyI (e:MapEntry):Int:=match e.key with|.int _ n=>n|_=>0
structure MapF (S:Int→Prop) (es:Array MapEntry) (cl:Nat):Prop where
 key:∀ x,x∈es.toList→x.key=.int .i64 (keyI x)∧S (keyI x)
 all:∀ n,S n→∃ x,x∈es.toList∧keyI x=n
 dj:(es.toList.map keyI).Nodup
 lt:∀ x,x∈es.toList→x.born<cl
 nd:(es.toList.map (·.born)).Nodup
theorem mp_facts {β:Names} {E:Nat→Prop} {w:World} {k:Nat} {g:Int→D} {S:Int→Prop} [DecidablePred S] (hg:∀ n,g n=.bool (decide (S n))) (h:OwnOk β E w k (.mp (.bool false) g)):∃ b es cl,OwnOk β E w k (.lp b (.map es cl))∧MapF S es cl:=by
 obtain ⟨b,es,cl,h1,h2,h3,h4,h5,h6,h7,h8⟩:=h
 have hk:∀ x,x∈es.toList→x.key=.int .i64 (keyI x):=fun x hx=>by
  have:=h3 x hx
  unfold MapKept.IsKey at this
  cases hk:x.key<;>rw [hk] at this<;>simp at this
  subst this
  simp [keyI,hk]
 have hget:∀ x,x∈es.toList→∃ i,es[i]?=some x:=fun x hx=>by
  obtain ⟨i,hi⟩:=List.mem_iff_getElem?.1 hx
  exact ⟨i,by simpa using hi⟩
 refine ⟨b,es,cl,⟨h1,h2⟩,fun x hx=>⟨hk x hx,?_⟩,fun n hn=>?_,?_,h7,h8⟩
 ·obtain ⟨i,hi⟩:=hget x hx
  have:=(h5 i x (keyI x) hi (hk x hx)).2.2 rfl
  rw [hg] at this
  by_cases hS:S (keyI x)
  ·exact hS
  ·simp [hS] at this
 ·by_cases hc:∀ x,x∈es.toList→x.key≠.int .i64 n
  ·have:=h6 n hc
   rw [hg] at this
   simp [hn] at this
  ·simp only [Classical.not_forall] at hc
   obtain ⟨x,hx,hk2⟩:=hc
   have hk2:=Classical.not_not.1 hk2
   rw [hk x hx] at hk2
   injection hk2 with _ e
   exact ⟨x,hx,e⟩
 ·rw [List.Nodup,List.pairwise_iff_getElem]
  intro i j hi hj hij e
  rw [List.length_map] at hi hj
  rw [List.getElem_map,List.getElem_map] at e
  have:=h4 i j _ _ (by rw [←Array.getElem?_toList];exact List.getElem?_eq_getElem hi) (by rw [←Array.getElem?_toList];exact List.getElem?_eq_getElem hj) (by rw [hk _ (List.getElem_mem _),hk _ (List.getElem_mem _),e])
  omega
theorem opOk {c:Ctx} {ops:Array Oper} {Q:Exit→Act→World→Prop} {o:Oper} {rest:List Oper} {a:Act} {w:World} {v:Value} {w':World} {d:Nat} (hg:o.guard=none) (hd:o.dst=some d) (h:(execOp a.eval o).run c.P w=.ok (.value v) w') (hk:wpListIn c.F 0 c.P ops Q rest (a.put (some d) v) w'):wpListIn c.F 0 c.P ops Q (o::rest) a w:=
 wpListIn_plain hg fun K hK=>Oper.wp_ok (.inl h) (by rw [hd];exact hK _ _ hk)
theorem eval_put {a:Act} {d s:Nat} {v:Value} (hd:d<a.tmps.size):(a.put (some d) v).eval (.tmp s)=if d=s then v else a.eval (.tmp s):=Act.getD_put a d s v hd
theorem map_begin {c:Ctx} {β:Names} {st:St} {a:Act} {w:World} (hP:c.P=Tryz.prog) (H:Holds c β st a w) {id:Nat} {o1 o2:Oper} {bm:Nat} {es:Array MapEntry} {cl:Nat} (g1:o1.guard=none) (g2:o2.guard=none) (h1:o1.op=.move (.tmp 3)) (d1:o1.dst=some 33) (h2:o2.op=.range 133 (.tmp 33)) (d2:o2.dst=some 34) (hnt:34<c.nt)
  (hget:get st.env 3=.osl 10) (hown:own? st.own 10=some (.lp bm (.map es cl))) (h34:34∉st.nm) {Q:Exit→Act→World→Prop}
  (hQ:∀ β' a' w' r,Holds c β' ⟨(34,.own 34 0)::(33,.osl 10)::st.env,setO st.own 34 (.lp r (.it (some bm) cl #[] cl)),34::st.nm⟩ a' w'→Q .normal a' w'):(Code.region id #[o1,o2] false).wpIn c.F 0 c.P Q a w:=by
 refine wpIn_region_list ?_
 have hm:=own_ok H hown
 have e3:a.eval (.tmp 3)=.map (some bm):=by
  have:=H.env 3
  rw [hget] at this
  generalize hu:a.tmps.getD 3 undef=u at *
  cases this with
  |osl _ _ hb _=>rw [hm.1] at hb;injection hb with hb;exact hu.trans hb.symm
 have hsz:=H.sz
 refine opOk g1 d1 (v:=.map (some bm)) (w':=w) (by simp [execOp,h1,e3]) ?_
 have H1:Holds c β ⟨(33,.osl 10)::st.env,st.own,st.nm⟩ (a.put (some 33) (.map (some bm))) w:=H.setV (by omega) (.osl _ _ hm.1 rfl)
 have e33:(a.put (some 33) (.map (some bm))).eval (.tmp 33)=.map (some bm):=by rw [eval_put (by omega),if_pos rfl]
 have ht:∃ k e,c.P.underlying 133=some (.map k e):=by rw [hP];exact ⟨3,4,by kernel_rfl⟩
 obtain ⟨tk,te,ht⟩:=ht
 refine opOk g2 d2 (v:=.pointer (some ⟨w.heap.size,0,none⟩)) (w':=w.alloc (.mapIter (some bm) cl #[] cl)) ?_ ?_
 ·have:=run_range_map w _ tk te bm es cl ht hm.2
  simp [execOp,h2,e33,this,Result.andThen]
 ·obtain ⟨β',h5,h6,h7⟩:=H1.addOwn (keeps_alloc w (.mapIter (some bm) cl #[] cl)) h34 (val:=.pointer (some ⟨w.heap.size,0,none⟩)) (ow:=.lp w.heap.size (.it (some bm) cl #[] cl)) (fun b hb=>by simp [blkOf] at hb;subst hb;simp) (fun β' E' hb h6 hl=>⟨h6,heap_alloc_new w _⟩)
  exact hQ β' _ _ _ (h7.setV (by omega) (.own _ _ _ h6))
theorem keeps_set {β:Names} {k r:Nat} (hk:β.blk k=some r) {w w1:World} (h1:w1=w∨w1=w.drew) (o:Obj):Keeps (fun b=>β.blk k=some b) w (setBlock w1 r o):=by
 have hh:w1.heap=w.heap:=by rcases h1 with rfl|rfl<;>rfl
 refine ⟨by rcases h1 with rfl|rfl<;>rfl,by rcases h1 with rfl|rfl<;>rfl,by rcases h1 with rfl|rfl<;>rfl,by simp [setBlock,hh],fun b hb hl=>?_⟩
 have hne:r≠b:=fun e=>hl (e▸hk)
 show (w1.heap.setIfInBounds r o)[b]?=_
 rw [hh,Array.getElem?_setIfInBounds_ne hne]
theorem set_at {w w1:World} {r:Nat} {ob:Obj} (hr:w.heap[r]?=some ob) (h1:w1=w∨w1=w.drew) (o:Obj):(setBlock w1 r o).heap[r]?=some o:=by
 have hh:w1.heap=w.heap:=by rcases h1 with rfl|rfl<;>rfl
 have hlt:=(Array.getElem?_eq_some_iff.1 hr).1
 show (w1.heap.setIfInBounds r o)[r]?=_
 rw [hh];simp [hlt]
theorem it_eval {c:Ctx} {β:Names} {st:St} {a:Act} {w:World} (H:Holds c β st a w) {r:Nat} {bm:Nat} {cl:Nat} {seen:Array Nat} (hget:get st.env 34=.own 34 0) (hit:own? st.own 34=some (.lp r (.it (some bm) cl seen cl))):a.eval (.tmp 34)=.pointer (some ⟨r,0,none⟩):=by
 have hm:=own_ok H hit
 have:=H.env 34
 rw [hget] at this
 generalize hu:a.tmps.getD 34 undef=u at *
 have h1:β 34=some (.pointer (some ⟨r,0,none⟩)):=hm.1
 cases this with
 |own _ _ b hb =>
  rw [h1] at hb
  injection hb with hb;injection hb with hb;injection hb with hb;injection hb with hb
  subst hb
  exact hu
theorem map_next {c:Ctx} {β:Names} {st:St} {a:Act} {w:World} (H:Holds c β st a w) {id:Nat} {o1 o2:Oper} {bm r cl:Nat} {es:Array MapEntry} {seen:Array Nat} (g1:o1.guard=none) (g2:o2.guard=none) (h1:o1.op=.next (.tmp 34) false) (d1:o1.dst=some 35) (h2:o2.op=.extract (.tmp 35) 0) (d2:o2.dst=some 36) (hnt:36<c.nt)
  (hget:get st.env 34=.own 34 0) (hit:own? st.own 34=some (.lp r (.it (some bm) cl seen cl))) (hmp:own? st.own 10=some (.lp bm (.map es cl))) (hlt:∀ x,x∈es.toList→x.born<cl) {Q:Exit→Act→World→Prop}
  (hQ0:(leftOf es seen).size=0→∀ a',Holds c β ⟨(36,.d (.bool false))::(35,.un)::st.env,st.own,st.nm⟩ a' w→Q .normal a' w)
  (hQ1:∀ e,e∈(leftOf es seen).toList→∀ a' w',Holds c β ⟨(36,.d (.bool true))::(35,.un)::st.env,setO st.own 34 (.lp r (.it (some bm) cl (seen.push e.born) cl)),st.nm⟩ a' w'→Q .normal a' w'):(Code.region id #[o1,o2] false).wpIn c.F 0 c.P Q a w:=by
 refine wpIn_region_list ?_
 have hm:=own_ok H hmp
 have hi:=own_ok H hit
 have hsz:=H.sz
 have e34:=it_eval H hget hit
 have hi1:β 34=some (.pointer (some ⟨r,0,none⟩)):=hi.1
 have hi2:w.heap[r]?=some (.mapIter (some bm) cl seen cl):=hi.2
 have hm2:w.heap[bm]?=some (.map es cl):=hm.2
 rcases run_next_at (P:=c.P) w o1.type r bm cl cl seen es cl hi2 hm2 hlt (Nat.le_refl _) with ⟨h0,hr⟩|⟨e,he,w1,hw1,hr⟩
 ·refine opOk g1 d1 (v:=.tuple #[.bool false]) (w':=w) (by simp [execOp,h1,e34,hr,Result.andThen]) ?_
  have H1:Holds c β ⟨(35,.un)::st.env,st.own,st.nm⟩ (a.put (some 35) (.tuple #[.bool false])) w:=H.setV (by omega) (.un _)
  refine opOk g2 d2 (v:=.bool false) (w':=w) (by simp [execOp,h2,eval_put (show 35<a.tmps.size by omega),Instr.extract]) ?_
  exact hQ0 h0 _ (H1.setV (by omega) (.d _ _ (.bool false)))
 ·have hblk:β.blk 34=some r:=by simp [Names.blk,hi1,blkOf]
  have H0:Holds c β ⟨st.env,setO st.own 34 (.lp r (.it (some bm) cl (seen.push e.born) cl)),st.nm⟩ a (setBlock w1 r (.mapIter (some bm) cl (seen.push e.born) cl)):=
   H.updOwn (mem_keys (own?_mem hit)) (keeps_set hblk hw1 _) (fun E' hl hE=>⟨hi1,set_at hi2 hw1 _⟩)
  refine opOk g1 d1 (v:=.tuple #[.bool true,e.key,e.val]) (w':=setBlock w1 r (.mapIter (some bm) cl (seen.push e.born) cl)) (by simp [execOp,h1,e34,hr,Result.andThen]) ?_
  have H1:=H0.setV (d:=35) (by omega) (.un (.tuple #[.bool true,e.key,e.val]))
  refine opOk g2 d2 (v:=.bool true) (w':=setBlock w1 r (.mapIter (some bm) cl (seen.push e.born) cl)) (by simp [execOp,h2,eval_put (show 35<a.tmps.size by omega),Instr.extract]) ?_
  exact hQ1 e he _ _ (H1.setV (by omega) (.d _ _ (.bool true)))
theorem map_entry {c:Ctx} {β:Names} {st:St} {a:Act} {w:World} (H:Holds c β st a w) {id:Nat} {o1 o2 o3:Oper} {bm r cl:Nat} {es:Array MapEntry} {seen:Array Nat} {e:MapEntry} {n:Int} (g1:o1.guard=none) (g2:o2.guard=none) (g3:o3.guard=none) (h1:o1.op=.entry (.tmp 34)) (d1:o1.dst=some 37) (h2:o2.op=.extract (.tmp 37) 0) (d2:o2.dst=some 38) (h3:o3.op=.assign (.tmp 38)) (d3:o3.dst=some 9) (hnt:38<c.nt)
  (hget:get st.env 34=.own 34 0) (hit:own? st.own 34=some (.lp r (.it (some bm) cl (seen.push e.born) cl))) (hmp:own? st.own 10=some (.lp bm (.map es cl))) (he:e∈es.toList) (hnd:(es.toList.map (·.born)).Nodup) (hk:e.key=.int .i64 n) {Q:Exit→Act→World→Prop}
  (hQ:∀ a',Holds c β ⟨(9,.d (.int .i64 n))::(38,.d (.int .i64 n))::(37,.un)::st.env,st.own,st.nm⟩ a' w→Q .normal a' w):(Code.region id #[o1,o2,o3] false).wpIn c.F 0 c.P Q a w:=by
 refine wpIn_region_list ?_
 have hm:=own_ok H hmp
 have hi:=own_ok H hit
 have hsz:=H.sz
 have e34:=it_eval H hget hit
 have hi2:w.heap[r]?=some (.mapIter (some bm) cl (seen.push e.born) cl):=hi.2
 have hm2:w.heap[bm]?=some (.map es cl):=hm.2
 have hr:=run_entry_at (P:=c.P) w r bm cl seen es cl e hi2 hm2 he hnd
 refine opOk g1 d1 (v:=.tuple #[e.key,e.val]) (w':=w) (by simp [execOp,h1,e34,hr,Result.andThen]) ?_
 have H1:Holds c β ⟨(37,.un)::st.env,st.own,st.nm⟩ (a.put (some 37) (.tuple #[e.key,e.val])) w:=H.setV (by omega) (.un _)
 refine opOk g2 d2 (v:=.int .i64 n) (w':=w) (by simp [execOp,h2,eval_put (show 37<a.tmps.size by omega),Instr.extract,hk]) ?_
 have H2:=H1.setV (d:=38) (by omega) (.d _ _ (.int .i64 n))
 have hsz2:=H1.sz
 refine opOk g3 d3 (v:=.int .i64 n) (w':=w) (by simp [execOp,h3,eval_put (show 38<(a.put (some 37) (Value.tuple #[e.key,e.val])).tmps.size by omega)]) ?_
 exact hQ _ (H2.setV (by omega) (.d _ _ (.int .i64 n)))
def OutOk (es:Array MapEntry) (seen:Array Nat) (out:List Int):Prop:=out.Perm ((es.toList.filter fun x=>seen.contains x.born).map keyI)
theorem out_step {es:Array MapEntry} {seen:Array Nat} {out:List Int} (hnd:(es.toList.map (·.born)).Nodup) {e:MapEntry} (he:e∈(leftOf es seen).toList) (h:OutOk es seen out):OutOk es (seen.push e.born) (out++[keyI e]):=by
 obtain ⟨hm,hs⟩:=mem_left he
 have key:∀ l:List MapEntry,(l.map (·.born)).Nodup→e∈l→((l.filter fun x=>seen.contains x.born).map keyI++[keyI e]).Perm ((l.filter fun x=>(seen.push e.born).contains x.born).map keyI):=by
  intro l
  induction l with
  |nil=>intro _ h;simp at h
  |cons x l ih =>
   intro hn hx
   have hn':x.born∉l.map (·.born)∧(l.map (·.born)).Nodup:=List.nodup_cons.1 hn
   rcases List.mem_cons.1 hx with rfl|hx
   ·have e1:(l.filter fun x=>(seen.push e.born).contains x.born)=l.filter fun x=>seen.contains x.born:=List.filter_congr fun y hy=>by
     have hne:(y.born == e.born)=false:=by
      rw [beq_eq_false_iff_ne]
      exact fun h=>hn'.1 (h▸List.mem_map.2 ⟨y,hy,rfl⟩)
     rw [contains_push,hne,Bool.or_false]
    have e2:(seen.push e.born).contains e.born=true:=by rw [contains_push];simp
    rw [List.filter_cons,if_neg (by rw [hs];simp),List.filter_cons,if_pos e2,e1,List.map_cons]
    exact List.perm_append_singleton _ _
   ·have hne:(x.born == e.born)=false:=by
     rw [beq_eq_false_iff_ne]
     exact fun h=>hn'.1 (h▸List.mem_map.2 ⟨e,hx,rfl⟩)
    have e1:(seen.push e.born).contains x.born=seen.contains x.born:=by rw [contains_push,hne,Bool.or_false]
    have:=ih hn'.2 hx
    rw [List.filter_cons,List.filter_cons,e1]
    split
    ·simpa using this
    ·exact this
 exact (h.append_right _).trans (key es.toList hnd hm)
theorem out_end {es:Array MapEntry} {seen:Array Nat} {out:List Int} (h:OutOk es seen out) (h0:(leftOf es seen).size=0):out.Perm (es.toList.map keyI):=by
 have:=all_seen es seen h0
 rwa [OutOk,List.filter_eq_self.2 this] at h
theorem out_len {es:Array MapEntry} {seen:Array Nat} {out:List Int} (h:OutOk es seen out):out.length≤es.size:=by
 rw [h.length_eq,List.length_map,←Array.length_toList]
 exact List.length_filter_le _ _
def stM (r bm cl:Nat) (es:Array MapEntry) (seen:Array Nat) (out:List Int):St:=⟨[(8,.osl 1000),(34,.own 34 0)],[(1000,rowZ out),(34,.lp r (.it (some bm) cl seen cl)),(10,.lp bm (.map es cl))],[1000,34,10]⟩
theorem map_loop {c:Ctx} (hnt:38<c.nt) {o1 o2 p1 p2 p3:Oper} {i1 i2:Nat} {X:Code} {cx:C} (g1:o1.guard=none) (g2:o2.guard=none) (h1:o1.op=.next (.tmp 34) false) (d1:o1.dst=some 35) (h2:o2.op=.extract (.tmp 35) 0) (d2:o2.dst=some 36)
  (g3:p1.guard=none) (g4:p2.guard=none) (g5:p3.guard=none) (h3:p1.op=.entry (.tmp 34)) (d3:p1.dst=some 37) (h4:p2.op=.extract (.tmp 37) 0) (d4:p2.dst=some 38) (h5:p3.op=.assign (.tmp 38)) (d5:p3.dst=some 9)
  (hX:cCode c.P c.nt X=some cx) {r bm cl:Nat} {es:Array MapEntry} {S:Int→Prop} (F:MapF S es cl) (hM:es.size≤1000000)
  (hv:∀ (out:List Int) (n:Int) (seen:Array Nat),out.length≤1000000→vcC c cx ⟨(9,.d (.int .i64 n))::(38,.d (.int .i64 n))::(37,.un)::(36,.d (.bool true))::(35,.un)::(stM r bm cl es seen out).env,(stM r bm cl es seen out).own,(stM r bm cl es seen out).nm⟩ (fun e st'=>e=.nrm∧Wk c st' (stM r bm cl es seen (out++[n])))) :
  vcT c (.block 4 (.loop (.seq (.region i1 #[o1,o2] false) (.seq (.cond (.tmp 36) .skip (.exit 4)) (.block 5 (.seq (.region i2 #[p1,p2,p3] false) X)))))) (stM r bm cl es #[] [])
   (fun e st'=>e=.nrm∧∃ seen out,out.Perm (es.toList.map keyI)∧st'=⟨(36,.d (.bool false))::(35,.un)::(stM r bm cl es seen out).env,(stM r bm cl es seen out).own,(stM r bm cl es seen out).nm⟩):=by
 intro β a w H
 have ho0:OutOk es #[] []:=by
  have:(es.toList.filter fun x=>(#[]:Array Nat).contains x.born)=[]:=List.filter_eq_nil_iff.2 fun x _=>by simp
  rw [OutOk,this];exact List.Perm.nil
 refine wpIn_block (wpIn_loop_ghost (fun n a w=>∃ seen out β,n=(leftOf es seen).size∧OutOk es seen out∧Holds c β (stM r bm cl es seen out) a w) (leftOf es #[]).size ⟨#[],[],β,rfl,ho0,H⟩ ?_)
 rintro n a w ⟨seen,out,β,rfl,ho,H⟩
 refine wpIn_seq (map_next H g1 g2 h1 d1 h2 d2 (by omega) rfl rfl rfl F.lt (fun h0 a' H'=>?_) (fun e he a' w' H'=>?_))
 ·have e36:a'.eval (.tmp 36)=.bool false:=rel_bool (H'.env 36)
  refine wpIn_seq (wpIn_cond_split (t:=false) e36 (fun h=>by cases h) (fun _=>wpIn_exit ?_))
  exact .inl ⟨_,rfl,β,_,⟨rfl,seen,out,out_end ho h0,rfl⟩,H'⟩
 ·have e36:a'.eval (.tmp 36)=.bool true:=rel_bool (H'.env 36)
  refine wpIn_seq (wpIn_cond_split (t:=true) e36 (fun _=>wpIn_skip ?_) (fun h=>by cases h))
  have hm:=(mem_left he).1
  refine wpIn_block (wpIn_seq (map_entry H' g3 g4 g5 h3 d3 h4 d4 h5 d5 hnt rfl rfl rfl hm F.nd (F.key e hm).1 (fun a2 H2=>?_)))
  refine wpIn_mono (code_ok hX (hv out (keyI e) (seen.push e.born) (Nat.le_trans (out_len ho) hM)) β a2 w' H2) ?_
  rintro ex a3 w3 (⟨x,hx,β3,st3,⟨rfl,hw⟩,H3⟩|⟨ch,rfl,hpan⟩)
  ·cases ex<;>simp at hx
   obtain ⟨β4,H4⟩:=hw β3 a3 w3 H3
   exact ⟨_,left_shrinks es seen e he,seen.push e.born,out++[keyI e],β4,rfl,out_step F.nd he ho,H4⟩
  ·exact .inr ⟨ch,rfl,hpan⟩
end Go.Proofs.YtmccbkekpjgdbaaGreat
end
section
namespace Go.Proofs.YtmccbkekpjgdbaaGreat
open Go.Bx
set_option maxRecDepth 10000
def leastR (a:Int) (l:List Int):Int:=max (l.foldl min a) 0
theorem sLeast (a:Int) (l:List Int) (hl:l.length≤9223372036854775807):Ctr Tryz.prog 53 [.d (.int .i64 a),.d (slK .i64 l)] [] (.d (.int .i64 (leastR a l))) [] []:=by
 refine qP Tryz.func53 fun c hP hfn=>?_;simp only [vcd,↓vcp,seval]
 refine vcC.loop (X:=Nat×Int) (fun x=>⟨[(0,.d (.int .i64 x.2)),(7,.d (slK .i64 l)),(8,.d (.int .i64 l.length)),(9,.d (.int .i64 x.1))],[],[]⟩)
  (fun x=>x.1≤l.length∧l.foldl min a=(l.drop x.1).foldl min x.2) (fun x=>l.length-x.1) (0,a) ⟨Nat.zero_le _,rfl⟩ (Wk.of [] hfn rfl (by (simp only [enb,vcd,↓vcp,seval])<;>(first|exact wS (by omega)|(rw [List.length_append];exact wS (by omega))|assumption)) (by simp only [enb,vcd,↓vcp,seval])) ?_
 rintro ⟨k,n⟩ ⟨hk,he⟩
 simp only at hk he
 simp only [vcd,↓vcp,seval]
 refine ⟨fun h1=>?_,fun h1=>?_⟩
 ·have hlt:k<l.length:=by have:=of_decide_eq_true h1;omega
  obtain ⟨x,hd,hg,-,-⟩:=drop_at hlt
  simp only [hg]
  rw [hd,List.foldl_cons] at he
  repeat' first|refine ⟨fun h=>?_,fun h=>?_⟩|refine aX ?_|fail
  exact lopK.on (k+1,min n x) ⟨hlt,he⟩ (by simp only;omega) (Wk.of [] hfn rfl (by (simp only [enb,vcd,↓vcp,seval])<;>(first|exact wS (by omega)|(rw [List.length_append];exact wS (by omega))|assumption)) (by simp only [enb,vcd,↓vcp,seval]))
 ·have hkl:k=l.length:=by have:=of_decide_eq_false h1;omega
  rw [hkl,List.drop_length,List.foldl_nil] at he
  (refine rq ?_;first|exact ⟨⟩|rw [leastR,he])
theorem sLeast' {a:Int} {full:Bool} {n:Nat} {ds:List D} {l:List Int} (h:LitI .i64 ds l) (hn:n=l.length) (hl:l.length≤9223372036854775807):Ctr Tryz.prog 53 [.d (.int .i64 a),.d (.sl full 1 n (litRow 1 ds))] [] (.d (.int .i64 (leastR a l))) [] []:=
 (sLeast a l hl).arg ⟨VLe.refl _,h.vle hn,trivial⟩
def claimC (c:Cv) (loss:Int):Int:=leastR (IntKind.i64.wrap (loss-c.de)) [c.li]
theorem sTclaim (k:Cv) (loss:Int):Ctr Tryz.prog 51 [vC k,.d (.int .i64 loss)] [] (.d (.int .i64 (claimC k loss))) [] []:=by
 refine qP Tryz.func51 fun c hP hfn=>?_;simp only [vC,cC,vcd,↓vcp,seval]
 repeat' first|(refine tq hP (h:=⟨_,fun _=>by exact sLeast' (by repeat constructor) (by rfl) (by simp),?_⟩);try simp only [vcd,↓vcp,seval])|refine ⟨fun h=>?_,fun h=>?_⟩|refine aX ?_|fail
 exact rr
theorem sTshare (k:Cv) (amt:Int) (ha:amt≤9223372036854775807) (hs:k.sh≤9223372036854775807):Ctr Tryz.prog 52 [vC k,.d (.int .i64 amt)] [] (.d (.int .i64 (bpR amt k.sh).1)) [] []:=by
 refine qP Tryz.func52 fun c hP hfn=>?_;simp only [vC,cC,vcd,↓vcp,seval]
 repeat' first|(refine tq hP (h:=⟨_,fun _=>by exact sBp amt k.sh ha hs,?_⟩);try simp only [vcd,↓vcp,seval])|refine ⟨fun h=>?_,fun h=>?_⟩|refine aX ?_|fail
 exact rr
def paysC (c:Cv) (loss used:Int):Int:=
 if (!(rightC c) || decide (loss<0) || decide (used<0))=true then 0 else leastR (bpR (claimC c loss) c.sh).1 [IntKind.i64.wrap (c.ag-used)]
theorem claim_le {k:Cv} {loss:Int} (h:k.li≤9223372036854775807):claimC k loss≤9223372036854775807:=by
 simp only [claimC,leastR,List.foldl_cons,List.foldl_nil];omega
def fn2 (k:Cv):Nat→Int→Int
 |0,x=>x
 |1,x=>claimC k x
 |_,x=>(bpR (claimC k x) k.sh).1
theorem sPays (k:Cv) (loss used:Int) (hli:k.li≤9223372036854775807) (hsh:k.sh≤9223372036854775807):Ctr Tryz.prog 22 [vC k,.d (.int .i64 loss),.d (.int .i64 used)] [] (.d (.int .i64 (paysC k loss used))) [] []:=by
 refine qP Tryz.func22 fun c hP hfn=>?_;simp only [vC,cC,vcd,↓vcp,seval]
 repeat' first|(refine tq hP (h:=⟨_,fun _=>by exact sCover k,?_⟩);try simp only [vcd,↓vcp,seval])|refine ⟨fun h=>?_,fun h=>?_⟩|refine aX ?_|fail
 ·(refine rq ?_;first|exact ⟨⟩|rw [paysC,if_pos h])
 refine vcC.loop (X:=Nat) (fun x=>⟨[(2,.d (.int .i64 used)),(3,.own 3 0),(7,.d (.int .i64 (fn2 k x loss))),(26,.osl 26),(27,.d (.int .i64 2)),(28,.d (.int .i64 x))],[(3,.fix (cC k)),(26,.lit 100 1 2 [.fn (.func 51) [vC k] [],.fn (.func 52) [vC k] []])],[3,26]⟩)
  (fun x=>x≤2) (fun x=>2-x) 0 (by omega) (Wk.of [] hfn rfl (by simp only [fn2,enb,vcd,↓vcp,seval]) (by simp only [cC,vC,enb,vcd,↓vcp,seval])) ?_
 intro x hx
 have:x=0∨x=1∨x=2:=by omega
 rcases this with rfl|rfl|rfl
 ·simp only [fn2,cC,vC,vcd,↓vcp,seval]
  repeat' first|(refine tq hP (h:=⟨_,fun _=>by exact sTclaim k loss,?_⟩);try simp only [vcd,↓vcp,seval])|refine ⟨fun h=>?_,fun h=>?_⟩|refine aX ?_|fail
  exact lopK.on 1 (by omega) (by omega) (Wk.of [] hfn rfl (by simp only [fn2,enb,vcd,↓vcp,seval];decide +kernel) (by simp only [cC,vC,enb,vcd,↓vcp,seval]))
 ·simp only [fn2,cC,vC,vcd,↓vcp,seval]
  repeat' first|(refine tq hP (h:=⟨_,fun _=>by exact sTshare k (claimC k loss) (claim_le hli) hsh,?_⟩);try simp only [vcd,↓vcp,seval])|refine ⟨fun h=>?_,fun h=>?_⟩|refine aX ?_|fail
  exact lopK.on 2 (by omega) (by omega) (Wk.of [] hfn rfl (by simp only [fn2,enb,vcd,↓vcp,seval];decide +kernel) (by simp only [cC,vC,enb,vcd,↓vcp,seval]))
 ·simp only [fn2,cC,vC,vcd,↓vcp,seval]
  repeat' first|(refine tq hP (h:=⟨_,fun _=>by exact sLeast' (by repeat constructor) (by rfl) (by simp),?_⟩);try simp only [vcd,↓vcp,seval])|refine ⟨fun h=>?_,fun h=>?_⟩|refine aX ?_|fail
  (refine rq ?_;first|exact ⟨⟩|(rw [paysC,if_neg (by rw [h];simp)]))
end Go.Proofs.YtmccbkekpjgdbaaGreat
end
section
namespace Go.Proofs.YtmccbkekpjgdbaaGreat
open Go.Bx
theorem pays_ok {c:Cv} (hf:Fine c) (x u:Int):0≤paysC c x u∧(0≤u→u≤1000000000000000→paysC c x u≤max 0 (c.ag-u)):=by
 have h0:∀ a b,leastR a [b]=max (min a b) 0:=fun a b=>rfl
 have ha:=hf.ag
 have h3:=hf.de
 have h4:=hf.li
 unfold paysC
 refine ⟨?_,fun h1 h2=>?_⟩
 ·split
  ·exact Int.le_refl _
  ·rw [h0];omega
 ·split
  ·omega
  ·rw [h0,show IntKind.i64.wrap (c.ag-u)=c.ag-u from wI (by omega)]
   omega
structure Pi' (A:Int) (S:List Stp') (x:PS):Prop where
 al:0≤x.al∧x.al≤A
 pd:∀ k,0≤x.pd k∧x.pd k≤x.al
 sh:∀ k,x.sh k=((S.filter fun s=>decide (s.ac.kd=2)&&decide (s.fi=k)).map (·.ac.am)).sum
 row:∀ k,x.pd k=((x.rows.filter fun p=>decide (p.1=k)).map (·.2.2)).sum
 sum:x.al=(x.rows.map (·.2.2)).sum
theorem pi0 {A:Int} (h:0≤A):Pi' A [] ps0:=⟨⟨Int.le_refl _,h⟩,fun k=>⟨Int.le_refl _,Int.le_refl _⟩,fun k=>rfl,fun k=>rfl,rfl⟩
theorem pi_step {A:Int} (hA:A≤1000000000000000) {f:Int→Int→Int} (hf:∀ x u,0≤f x u∧(0≤u→u≤1000000000000000→f x u≤max 0 (A-u))) {S:List Stp'} {x:PS} (h:Pi' A S x) (s:Stp'):Pi' A (S++[s]) (stepP f x s):=by
 obtain ⟨h1,h2,h3,h4,h5⟩:=h
 have hsh:∀ k,((S++[s]).filter (fun s=>decide (s.ac.kd=2)&&decide (s.fi=k))).map (·.ac.am)=(S.filter fun s=>decide (s.ac.kd=2)&&decide (s.fi=k)).map (·.ac.am)++if s.ac.kd=2∧s.fi=k then [s.ac.am] else []:=fun k=>by
  rw [List.filter_append,List.map_append]
  congr 1
  by_cases e1:s.ac.kd=2<;>by_cases e2:s.fi=k<;>simp [e1,e2]
 unfold stepP
 split
 ·rename_i hk
  exact ⟨h1,h2,fun k=>by rw [hsh,if_neg (fun h=>hk h.1),List.append_nil];exact h3 k,h4,h5⟩
 ·rename_i hk
  have hk2:s.ac.kd=2:=Decidable.of_not_not hk
  have hs':∀ k,updF x.sh s.fi (x.sh s.fi+s.ac.am) k=(((S++[s]).filter fun s=>decide (s.ac.kd=2)&&decide (s.fi=k)).map (·.ac.am)).sum:=fun k=>by
   rw [hsh,List.sum_append,←h3]
   unfold updF
   by_cases e:k=s.fi
   ·subst e;rw [if_pos rfl,if_pos ⟨hk2,rfl⟩];simp
   ·rw [if_neg e,if_neg (fun h=>e h.2.symm)];simp
  split
  ·exact ⟨h1,h2,hs',h4,h5⟩
  ·rename_i hm
   obtain ⟨F,hF⟩:∃ F,F=f (x.sh s.fi+s.ac.am) (x.al-x.pd s.fi):=⟨_,rfl⟩
   have hp:=h2 s.fi
   have hb:=hf (x.sh s.fi+s.ac.am) (x.al-x.pd s.fi)
   rw [←hF] at hb hm ⊢
   have hb2:=hb.2 (by omega) (by omega)
   refine ⟨by simp only;omega,fun k=>?_,hs',fun k=>?_,?_⟩
   ·simp only [updF]
    have:=h2 k
    split<;>omega
   ·simp only [updF]
    rw [List.filter_append,List.map_append,List.sum_append,←h4 k]
    by_cases e:k=s.fi
    ·subst e;simp
    ·rw [if_neg e];simp [Ne.symm e]
   ·simp only [List.map_append,List.sum_append,←h5];simp
theorem pi_run {A:Int} (h0:0≤A) (hA:A≤1000000000000000) {f:Int→Int→Int} (hf:∀ x u,0≤f x u∧(0≤u→u≤1000000000000000→f x u≤max 0 (A-u))) (S:List Stp'):∀ k,k≤S.length→Pi' A (S.take k) (runP f (S.take k))
 |0,_=>pi0 h0
 |k+1,hk=>by
  obtain ⟨s,-,-,-,hat⟩:=drop_at (l:=S) (k:=k) (by omega)
  have ht:S.take (k+1)=S.take k++[s]:=by rw [List.take_add_one,hat];rfl
  rw [ht,runP,List.foldl_append]
  exact pi_step hA hf (pi_run h0 hA hf S k (by omega)) s
theorem rows_len (f:Int→Int→Int):∀ (S:List Stp') (x:PS),(S.foldl (stepP f) x).rows.length≤x.rows.length+S.length
 |[],x=>Nat.le_refl _
 |s::S,x=>by
  have h1:(stepP f x s).rows.length≤x.rows.length+1:=by
   unfold stepP
   split
   ·exact Nat.le_succ _
   ·split
    ·exact Nat.le_succ _
    ·simp
  have h2:=rows_len f S (stepP f x s)
  rw [List.foldl_cons,List.length_cons];omega
theorem perm_sum {A B:List Int} (h:A.Perm B):A.sum=B.sum:=by
 induction h with
 |nil=>rfl
 |cons x _ ih=>simp [ih]
 |swap x y l=>simp;omega
 |trans _ _ h1 h2=>exact h1.trans h2
theorem sum_nn {l:List Int} (h:∀ x,x∈l→0≤x):0≤l.sum:=by
 induction l with
 |nil=>exact Int.le_refl _
 |cons x l ih =>
  have:=ih fun y hy=>h y (by simp [hy])
  have:=h x (by simp)
  rw [List.sum_cons];omega
def isK (k:Nat) (s:Stp'):Bool:=decide (s.ac.kd=2)&&decide (s.fi=k)
theorem tot_none {l:List Fi} {j k:Nat} (h:k<j):(stepsL j l).filter (isK k)=[]:=List.filter_eq_nil_iff.2 fun s hs=>by
 have:=(stepsL_mem hs).1
 simp only [isK,Bool.and_eq_true,decide_eq_true_eq];omega
theorem tot_le {M:Int} (hM:0≤M):∀ (l:List Fi) (j k:Nat),(∀ f,f∈l→((f.ac.filter fun a=>decide (a.kd=2)).map (·.am)).sum≤M)→(((stepsL j l).filter (isK k)).map (·.ac.am)).sum≤M
 |[],j,k,_=>by simpa [stepsL] using hM
 |f::r,j,k,h=>by
  rw [stepsL,List.filter_append,List.map_append,List.sum_append]
  by_cases e:k=j
  ·subst e
   rw [tot_none (Nat.lt_succ_self k)]
   have e1:((f.ac.map fun a=>(⟨k,a⟩:Stp')).filter (isK k)).map (·.ac.am)=(f.ac.filter fun a=>decide (a.kd=2)).map (·.am):=by
    rw [List.filter_map,List.map_map]
    have:((isK k) ∘ fun a=>(⟨k,a⟩:Stp'))=fun a=>decide (a.kd=2):=by funext a;simp [isK]
    rw [this];rfl
   have:=h f (by simp)
   rw [e1];simpa using this
  ·have e1:(f.ac.map fun a=>(⟨j,a⟩:Stp')).filter (isK k)=[]:=List.filter_eq_nil_iff.2 fun s hs=>by
    obtain ⟨a,-,rfl⟩:=List.mem_map.1 hs
    simp [isK,Ne.symm e]
   have:=tot_le hM r (j+1) k fun g hg=>h g (by simp [hg])
   rw [e1];simpa using this
theorem stepsL_len:∀ (l:List Fi) (j:Nat),(stepsL j l).length=actsN l
 |[],_=>rfl
 |f::r,j=>by rw [stepsL,actsN,List.length_append,List.length_map,stepsL_len r]
theorem stepsL_app:∀ (A B:List Fi) (j:Nat),stepsL j (A++B)=stepsL j A++stepsL (j+A.length) B
 |[],B,j=>by simp [stepsL]
 |f::A,B,j=>by rw [List.cons_append,stepsL,stepsL,stepsL_app A B,List.append_assoc,List.length_cons,show j+1+A.length=j+(A.length+1) by omega]
theorem sortS_perm (M:List Stp'):(sortS M).Perm M:=by have:=srt_perm ltS M [];rwa [List.nil_append] at this
structure StpOk (c:Cv) (n:Nat) (x:PS) (s:Stp'):Prop where
 fi:s.fi<n
 am:0≤s.ac.am∧s.ac.am≤1000000000000000
 bk:1≤s.ac.bk∧s.ac.bk≤292194
 sh:0≤x.sh s.fi∧(s.ac.kd=2→x.sh s.fi+s.ac.am≤1000000000000000)
 pd:0≤x.pd s.fi∧x.pd s.fi≤x.al
 al:x.al≤1000000000000000
 f:0≤paysC c (x.sh s.fi+s.ac.am) (x.al-x.pd s.fi)∧paysC c (x.sh s.fi+s.ac.am) (x.al-x.pd s.fi)≤1000000000000000
theorem RightOk.fine {c:Cv} {l:List Fi} (h:RightOk c l) (h1:I64 c.li) (h2:I64 c.ag):Fine c:=(right_iff h1 h2).1 h.cv
theorem RightOk.made {c:Cv} {l:List Fi} (h:RightOk c l) {f:Fi} (hf:f∈l):MadeOk f.cl f.ac:=made_ok f.cl _ f.ac rfl (badF_iff.1 (h.fl f hf)).2.2
def rowsP (c:Cv) (l:List Fi):PS:=runP (paysC c) (sortS (stepsL 0 l))
theorem step_ok {c:Cv} {l:List Fi} (h:RightOk c l) (hf:Fine c) {k:Nat} {s:Stp'} (hat:(sortS (stepsL 0 l))[k]?=some s):StpOk c l.length (runP (paysC c) ((sortS (stepsL 0 l)).take k)) s:=by
 obtain ⟨S,hS⟩:∃ S,S=sortS (stepsL 0 l):=⟨_,rfl⟩
 rw [←hS] at hat ⊢
 have hk:k<S.length:=(List.getElem?_eq_some_iff.1 hat).1
 have hag:=hf.ag
 have hde:=hf.de
 have hli:=hf.li
 have hp:=pi_run (by omega) hag (pays_ok hf) S k (by omega)
 obtain ⟨x,hx⟩:∃ x,x=runP (paysC c) (S.take k):=⟨_,rfl⟩
 rw [←hx] at hp ⊢
 have hmS:∀ t,t∈S→∃ f,f∈l∧l[t.fi]?=some f∧t.ac∈f.ac:=fun t ht=>by
  rw [hS] at ht
  obtain ⟨-,f,h1,h2⟩:=stepsL_mem ((sortS_perm _).mem_iff.1 ht)
  rw [Nat.sub_zero] at h1
  exact ⟨f,List.mem_of_getElem? h1,h1,h2⟩
 have hrt:∀ t,t∈S→rightA t.ac=true:=fun t ht=>by
  obtain ⟨f,h1,-,h2⟩:=hmS t ht
  exact (h.made h1).rt _ h2
 have hs:=List.mem_of_getElem? hat
 obtain ⟨f,f1,f2,f3⟩:=hmS s hs
 have ha:=rightA_am (hrt s hs)
 have hbk:=(rightA_iff.1 (hrt s hs)).1
 have hpd:=hp.pd s.fi
 have hal:=hp.al
 have hpf:=pays_ok hf (x.sh s.fi+s.ac.am) (x.al-x.pd s.fi)
 have hpf2:=hpf.2 (by omega) (by omega)
 have hnn:∀ (A:List Stp'),(∀ t,t∈A→t∈S)→0≤((A.filter (isK s.fi)).map (·.ac.am)).sum:=fun A hA=>sum_nn fun y hy=>by
  obtain ⟨t,ht,rfl⟩:=List.mem_map.1 hy
  exact (rightA_am (hrt t (hA t (List.mem_filter.1 ht).1))).1
 have hsh:=hp.sh s.fi
 refine ⟨(List.getElem?_eq_some_iff.1 f2).1,ha,hbk,⟨?_,fun hkd=>?_⟩,hpd,by omega,hpf.1,by omega⟩
 ·rw [hsh];exact hnn (S.take k) fun t ht=>List.mem_of_mem_take ht
 ·have htot:((S.filter (isK s.fi)).map (·.ac.am)).sum≤1000000000000000:=by
   rw [hS,perm_sum (((sortS_perm (stepsL 0 l)).filter (isK s.fi)).map (·.ac.am))]
   exact tot_le (by decide) l 0 s.fi fun g hg=>by
    have:=(h.made hg).sh
    rw [←(h.made hg).eq];exact this.2
  have hsp:S=S.take k++s::S.drop (k+1):=by
   have:=(List.take_append_drop k S).symm
   rw [List.drop_eq_getElem_cons hk] at this
   have e:S[k]=s:=by rw [List.getElem?_eq_getElem hk] at hat;exact Option.some.inj hat
   rwa [e] at this
  rw [hsp,List.filter_append,List.map_append,List.sum_append,List.filter_cons,if_pos (by simp [isK,hkd]),List.map_cons,List.sum_cons] at htot
  have h3:=hnn (S.drop (k+1)) fun t ht=>List.mem_of_mem_drop ht
  have h4:x.sh s.fi=(((S.take k).filter (isK s.fi)).map (·.ac.am)).sum:=hsh
  omega
end Go.Proofs.YtmccbkekpjgdbaaGreat
end
section
namespace Go.Proofs.YtmccbkekpjgdbaaGreat
open Go.Bx
set_option maxRecDepth 10000
set_option maxHeartbeats 2000000 in
theorem sMadeF (f:Fi) (hl:f.ac.length≤100000):Ctr Tryz.prog 92 [vFi f] [] (.d (.bool (madeF f))) [] []:=by
 have co:=sOpenF f.cl
 simp only [vCm,cCm,vFi,cFi] at co
 refine qP Tryz.func92 fun c hP hfn=>?_;simp only [vFi,cFi,vcd,↓vcp,seval]
 repeat' first|(refine tq hP (h:=⟨_,fun _=>by exact co,?_⟩);try simp only [vcd,↓vcp,seval])|refine ⟨fun h=>?_,fun h=>?_⟩|refine aX ?_|fail
 refine vcC.loop (X:=Nat×Fi×Int) (fun x=>⟨[(1,.own 1 0),(3,.own 3 0),(4,.d (.int .i64 x.2.2)),(5,.d (.int .i64 (x.1:Nat)))],[(1,.fix (cFi f)),(3,.fix (cFi x.2.1))],[1,3]⟩)
  (fun x=>x.1≤f.ac.length∧x.2.1.ac.length≤100001∧(x.2.2=0→x.2.1=⟨f.cl,f.ac.take x.1⟩∧madeF f=madeR f.cl (f.ac.take x.1) (f.ac.drop x.1))∧(x.2.2≠0→madeF f=false)) (fun x=>f.ac.length-x.1) (0,⟨f.cl,[]⟩,0) ⟨Nat.zero_le _,by simp,fun _=>⟨rfl,rfl⟩,fun h=>absurd rfl h⟩ (Wk.of _ hfn rfl (by simp only [enb,vcd,↓vcp,seval]) (by simp only [cFi,enb,vcd,↓vcp,seval])) ?_
 rintro ⟨k,x,e⟩ ⟨hk,hx,h0,h1⟩
 simp only at hk hx h0 h1
 by_cases hlt:k<f.ac.length
 ·have d0:decide ((k:Int)<(f.ac.length:Int))=true:=decide_eq_true (by omega)
  by_cases he:e=0
  ·subst he
   obtain ⟨rfl,hm⟩:=h0 rfl
   clear h0 h1 hx
   obtain ⟨a,hd,hg,-,hat⟩:=drop_at hlt
   have hg:=hg default
   have n0:((0:Int) == 0)=true:=rfl
   have w1:IntKind.i64.wrap ((k:Int)+1)=((k+1:Nat):Int):=wS (by omega)
   have b1:(0:Int)≤(k:Int)∧(k:Int)<(f.ac.length:Int):=by omega
   have hTl:(f.ac.take k).length=k:=by rw [List.length_take];omega
   have cp:=sPutF ⟨f.cl,f.ac.take k⟩ a (by simp only [hTl];omega)
   simp only [vFi,cFi,vAc] at cp
   have ht:f.ac.take (k+1)=f.ac.take k++[a]:=by rw [List.take_add_one,hat];rfl
   rw [hd,madeR] at hm
   obtain ⟨e',he'⟩:∃ e',e'=putE f.cl (f.ac.take k) a:=⟨_,rfl⟩
   obtain ⟨y,hy⟩:∃ y,y=putF ⟨f.cl,f.ac.take k⟩ a:=⟨_,rfl⟩
   rw [←he'] at cp hm
   rw [←hy] at cp
   have hyl:y.ac.length≤100001:=by
    rw [hy,putF]
    split
    ·simp only [List.length_append,hTl,List.length_singleton];omega
    ·simp [zFi]
   have hy0:e'=0→y=⟨f.cl,f.ac.take (k+1)⟩:=fun h=>by rw [hy,putF,if_pos (by rw [←he',h]),ht]
   clear hy he'
   simp only [cFi,slA,dAc,hg,d0,n0,w1,vcd,↓vcp,seval]
   simp only [slA,dAc,vcd,↓vcp,seval] at cp
   repeat' first|(refine tq hP (h:=⟨_,fun _=>by exact cp,?_⟩);try simp only [hg,n0,w1,vcd,↓vcp,seval])|refine ⟨fun h=>?_,fun h=>?_⟩|refine aX ?_|fail
   refine lopK.on (k+1,y,e') ⟨hlt,hyl,fun h=>⟨hy0 h,?_⟩,fun h=>?_⟩ (by simp only;omega) (Wk.of _ hfn rfl (by simp only [w1,enb,vcd,↓vcp,seval]) (by simp only [cFi,slA,dAc,enb,vcd,↓vcp,seval]))
   ·have h':e'=0:=h
    simp only
    rw [hm,h',ht];rfl
   ·have h':¬ e'=0:=h
    rw [hm,decide_eq_false h'];rfl
  ·have n0:(e == 0)=false:=by rw [beq_eq_false_iff_ne];exact he
   have hr:=h1 he
   simp only [cFi,slA,dAc,d0,n0,vcd,↓vcp,seval]
   repeat' first|refine ⟨fun h=>?_,fun h=>?_⟩|refine aX ?_|fail
   (refine rq ?_;first|exact ⟨⟩|rw [hr])
 ·have d0:decide ((k:Int)<(f.ac.length:Int))=false:=decide_eq_false (by omega)
  have hr:madeF f=(e == 0):=by
   by_cases he:e=0
   ·subst he
    rw [(h0 rfl).2,List.drop_eq_nil_of_le (by omega),madeR];rfl
   ·rw [h1 he];exact (beq_eq_false_iff_ne.2 he).symm
  simp only [cFi,slA,dAc,d0,vcd,↓vcp,seval]
  repeat' first|refine ⟨fun h=>?_,fun h=>?_⟩|refine aX ?_|fail
  (refine rq ?_;first|exact ⟨⟩|rw [hr])
theorem sBadF (k:Cv) (f:Fi) (hl:f.ac.length≤100000):Ctr Tryz.prog 90 [vFi f,.mem [.int .i64 k.pe,.int .i64 k.li,.int .i64 k.ag,.int .i64 k.de,.int .i64 k.sh]] [] (.d (.bool (badF k f))) [] []:=by
 have cf:=sFormedC f.cl
 have cm:=sMadeF f hl
 simp only [vCm,cCm] at cf
 simp only [vFi,cFi] at cm
 refine qP Tryz.func90 fun c hP hfn=>?_;simp only [vFi,cFi,vcd,↓vcp,seval]
 repeat' first|(refine tq hP (h:=⟨_,fun _=>by first|exact cf|exact cm,?_⟩);try simp only [vcd,↓vcp,seval])|refine ⟨fun h=>?_,fun h=>?_⟩|refine aX ?_|fail
 exact rr
theorem sIdxFi {g:Nat} {ds:List D} {p:Fi→Bool} (l:List Fi) (hp:∀ f,f∈l→Ctr Tryz.prog g [vFi f,.mem ds] [] (.d (.bool (p f))) [] []) (hl:l.length≤1000000) :
  Ctr Tryz.prog 138 [.d (slF l),fnO g ds] [] (.d (.int .i64 (idxP p l 0))) [] []:=by
 refine qP Tryz.func138 fun c hP hfn=>?_;simp only [slF,dFi,fnO,vcd,↓vcp,seval]
 refine vcC.loop (X:=Nat) (fun k=>⟨[(0,.d (slF l)),(1,fnO g ds),(7,.d (.int .i64 l.length)),(8,.d (.int .i64 (k:Nat)))],[],[]⟩)
  (fun k=>k≤l.length∧idxP p l 0=idxP p (l.drop k) k) (fun k=>l.length-k) 0 ⟨Nat.zero_le _,rfl⟩ (Wk.of _ hfn rfl (by simp only [slF,dFi,fnO,enb,vcd,↓vcp,seval]) (by simp only [enb,vcd,↓vcp,seval])) ?_
 rintro k ⟨hk,he⟩
 by_cases hlt:k<l.length
 ·obtain ⟨a,hd,hg,hm,-⟩:=drop_at hlt
  have hg:=hg default
  have d0:decide ((k:Int)<(l.length:Int))=true:=decide_eq_true (by omega)
  have w1:IntKind.i64.wrap ((k:Int)+1)=((k+1:Nat):Int):=wS (by omega)
  have b1:(0:Int)≤(k:Int)∧(k:Int)<(l.length:Int):=by omega
  have cc:=hp a hm
  simp only [vFi,cFi] at cc
  rw [hd,idxP] at he
  simp only [slF,dFi,fnO,hg,d0,w1,vcd,↓vcp,seval]
  repeat' first|(refine tq hP (h:=⟨_,fun _=>by exact cc,?_⟩);try simp only [hg,w1,vcd,↓vcp,seval])|refine ⟨fun h=>?_,fun h=>?_⟩|refine aX ?_|fail
  ·rw [if_pos h] at he
   (refine rq ?_;first|exact ⟨⟩|rw [he])
  ·rw [if_neg (by rw [h];simp)] at he
   exact lopK.on (k+1) ⟨hlt,he⟩ (by omega) (Wk.of _ hfn rfl (by simp only [slF,dFi,fnO,w1,enb,vcd,↓vcp,seval]) (by simp only [enb,vcd,↓vcp,seval]))
 ·have hk2:k=l.length:=by omega
  have d0:decide ((k:Int)<(l.length:Int))=false:=decide_eq_false (by omega)
  rw [hk2,List.drop_length,idxP] at he
  simp only [slF,dFi,fnO,d0,vcd,↓vcp,seval]
  repeat' first|refine ⟨fun h=>?_,fun h=>?_⟩|refine aX ?_|fail
  (refine rq ?_;first|exact ⟨⟩|rw [he])
theorem idx_any {X:Type} (p:X→Bool) (l:List X):decide (idxP p l 0≥0)=l.any p:=by
 rcases split_any p l with h|⟨A,x,B,rfl,h1,h2⟩
 ·rw [idxP_none p l 0 h,List.any_eq_false.2 fun x hx=>by rw [h x hx];simp];rfl
 ·rw [idxP_some p A x B 0 h1 h2]
  have:(A++x::B).any p=true:=by rw [List.any_eq_true];exact ⟨x,by simp,h2⟩
  rw [this]
  exact decide_eq_true (by omega)
theorem sContF {g:Nat} {ds:List D} {p:Fi→Bool} (l:List Fi) (hp:∀ f,f∈l→Ctr Tryz.prog g [vFi f,.mem ds] [] (.d (.bool (p f))) [] []) (hl:l.length≤1000000) :
  Ctr Tryz.prog 93 [.d (slF l),fnO g ds] [] (.d (.bool (l.any p))) [] []:=by
 have ci:=sIdxFi l hp hl
 rw [←idx_any]
 simp only [fnO] at ci
 refine qP Tryz.func93 fun c hP hfn=>?_;simp only [fnO,vcd,↓vcp,seval]
 repeat' first|(refine tq hP (h:=⟨_,fun _=>by exact ci,?_⟩);try simp only [vcd,↓vcp,seval])|refine ⟨fun h=>?_,fun h=>?_⟩|refine aX ?_|fail
 exact rr
theorem sRightL (k:Cv) (l:List Fi) (hl:ShF l):Ctr Tryz.prog 46 [vC k,.d (slF l)] [] (.d (.bool (rightL k l))) [] []:=by
 have ck:=sContF l (fun f hf=>sBadF k f (hl.2 f hf)) (by have:=hl.1;omega)
 have cr:=sCover k
 simp only [fnO] at ck
 simp only [vC,cC] at cr
 refine qP Tryz.func46 fun c hP hfn=>?_;simp only [vC,cC,vcd,↓vcp,seval]
 repeat' first|refine ⟨fun h=>?_,fun h=>?_⟩|refine aX ?_|fail
 refine TR.wk _ (Wk.pubF 2 rfl rfl) ?_
 simp only [vcd,↓vcp,seval]
 repeat' first|(refine tq hP (h:=⟨_,fun _=>by first|exact cr|exact ck,?_⟩);try simp only [vcd,↓vcp,seval])|refine ⟨fun h=>?_,fun h=>?_⟩|refine aX ?_|fail
 exact rr
theorem actsN_app:∀ A B:List Fi,actsN (A++B)=actsN A+actsN B
 |[],B=>by simp [actsN]
 |f::A,B=>by rw [List.cons_append,actsN,actsN,actsN_app A B];omega
theorem actsN_le {l:List Fi} (h:∀ f,f∈l→f.ac.length≤100000):actsN l≤l.length*100000:=by
 induction l with
 |nil=>simp [actsN]
 |cons f l ih =>
  have:=ih fun g hg=>h g (by simp [hg])
  have:=h f (by simp)
  rw [actsN,List.length_cons];omega
theorem sCheckL (k:Cv) (l:List Fi) (hl:ShF l):Ctr Tryz.prog 19 [vC k,.d (slF l)] [] (.d (.int .i64 (checkL k l))) [] []:=by
 have cr:=sRightL k l hl
 obtain ⟨hl,hs⟩:=hl
 have hact:=actsN_le hs
 simp only [vC,cC] at cr
 cases hr:rightL k l with
 |false =>
  have e:checkL k l=1:=by rw [checkL,if_pos hr]
  rw [e]
  rw [hr] at cr
  refine qP Tryz.func19 fun c hP hfn=>?_;simp only [vC,cC,vcd,↓vcp,seval]
  repeat' first|(refine tq hP (h:=⟨_,fun _=>by exact cr,?_⟩);try simp only [vcd,↓vcp,seval])|refine ⟨fun h=>?_,fun h=>?_⟩|refine aX ?_|fail
  all_goals exact rr
 |true =>
  rw [hr] at cr
  have e:checkL k l=if 2000<l.length∨2000<actsN l then 2 else 0:=by rw [checkL,if_neg (by rw [hr];simp)]
  simp only [slF,dFi] at cr
  refine qP Tryz.func19 fun c hP hfn=>?_;simp only [vC,cC,slF,dFi,vcd,↓vcp,seval]
  repeat' first|(refine tq hP (h:=⟨_,fun _=>by exact cr,?_⟩);try simp only [vcd,↓vcp,seval])|refine ⟨fun h=>?_,fun h=>?_⟩|refine aX ?_|fail
  refine vcC.loop (X:=Nat) (fun x=>⟨[(1,.d (slF l)),(5,.d (.int .i64 (actsN (l.take x):Nat))),(12,.d (slF l)),(13,.d (.int .i64 l.length)),(14,.d (.int .i64 (x:Nat)))],[],[]⟩)
   (fun x=>x≤l.length) (fun x=>l.length-x) 0 (Nat.zero_le _) (Wk.of _ hfn rfl (by simp only [List.take_zero,actsN,slF,dFi,enb,vcd,↓vcp,seval]) (by simp only [enb,vcd,↓vcp,seval])) ?_
  intro x hx
  by_cases hlt:x<l.length
  ·obtain ⟨f,-,hg,hm,hat⟩:=drop_at hlt
   have hg:=hg default
   have d0:decide ((x:Int)<(l.length:Int))=true:=decide_eq_true (by omega)
   have w1:IntKind.i64.wrap ((x:Int)+1)=((x+1:Nat):Int):=wS (by omega)
   have h1:=hs f hm
   have ht:actsN (l.take (x+1))=actsN (l.take x)+f.ac.length:=by
    rw [List.take_add_one,hat,actsN_app];simp [actsN]
   have h2:=actsN_le (l:=l.take x) fun g hg=>hs g (List.mem_of_mem_take hg)
   rw [List.length_take] at h2
   have w2:IntKind.i64.wrap ((actsN (l.take x):Int)+(f.ac.length:Int))=((actsN (l.take x)+f.ac.length:Nat):Int):=(wI (by omega)).trans (by omega)
   generalize actsN (l.take x)=n at *
   simp only [slF,dFi,slA,hg,d0,w1,w2,vcd,↓vcp,seval]
   repeat' first|refine ⟨fun h=>?_,fun h=>?_⟩|refine aX ?_|fail
   exact lopK.on (x+1) hlt (by omega) (Wk.of _ hfn rfl (by simp only [ht,slF,dFi,slA,w1,w2,enb,vcd,↓vcp,seval]) (by simp only [enb,vcd,↓vcp,seval]))
  ·have hx2:x=l.length:=by omega
   have d0:decide ((x:Int)<(l.length:Int))=false:=decide_eq_false (by omega)
   rw [hx2,List.take_length]
   rw [hx2] at d0
   have dor:(decide ((l.length:Int)>2000) || decide ((actsN l:Int)>2000))=decide (2000<l.length∨2000<actsN l):=by
    rw [Bool.eq_iff_iff];simp;omega
   simp only [slF,d0,vcd,↓vcp,seval]
   repeat' first|refine ⟨fun h=>?_,fun h=>?_⟩|refine aX ?_|fail
   ·(refine rq ?_;first|exact ⟨⟩|(rw [dor] at h;rw [e,if_pos (of_decide_eq_true h)]))
   ·(refine rq ?_;first|exact ⟨⟩|(rw [dor] at h;rw [e,if_neg (of_decide_eq_false h)]))
end Go.Proofs.YtmccbkekpjgdbaaGreat
end
section
namespace Go.Proofs.YtmccbkekpjgdbaaGreat
open Go.Bx
set_option maxRecDepth 10000
def sd:Stp':=default
abbrev cT (s:Stp'):List D:=[.int .i64 (s.fi:Int),.int .i64 s.ac.bk,.int .i64 s.ac.kd,.int .i64 s.ac.am]
abbrev vT (s:Stp'):V:=.ag [.d (.int .i64 (s.fi:Int)),.d (.int .i64 s.ac.bk),.d (.int .i64 s.ac.kd),.d (.int .i64 s.ac.am)]
def rowT (l:List Stp'):Go.Bx.Own:=.row 85 4 l.length (fun i=>cT (l.getD i sd))
def fnT (g:Nat):V:=.fn (.func g) [] []
def ltT (cf:Stp'→Stp'→Int) (a b:Stp'):Bool:=decide (cf a b<0)
structure CmpT (g:Nat) (cf:Stp'→Stp'→Int) (ok:Stp'→Prop):Prop where
 w:Swo (ltT cf)
 c:∀ a b,ok a→ok b→Ctr Tryz.prog g [vT a,vT b] [] (.d (.int .i64 (cf a b))) [] []
theorem getD_t {u:List Stp'} {p:Stp'} {w:List Stp'} {i:Nat} (h:i=u.length):(u++p::w).getD i sd=p:=by subst h;exact getD_mid sd u p w
theorem OLe.swt {e:Nat} {l l':List Stp'} {i j:Nat} {u v:Stp'} (hi:i<l.length) (hj:j<l.length) (hu:l.getD i sd=u) (hv:l.getD j sd=v) (h:l'=swq sd l i j) :
  OLe (.row e 4 l.length (fun i'=>if i'=j then putD (if j=i then putD (cT u) 0 (cT v) else cT v) 0 (cT u) else if i'=i then putD (cT u) 0 (cT v) else cT (l.getD i' sd)))
   (.row e 4 l'.length (fun i=>cT (l'.getD i sd))):=by
 subst h
 refine OLe.row (swq_len _ _ _ _).symm fun m hm=>?_
 rw [swq_get sd hi hj m,hu,hv]
 by_cases e1:m=j
 ·subst e1;simp only [if_true];split<;>simp [putD]
 ·rw [if_neg e1,if_neg e1]
  by_cases e2:m=i
  ·subst e2;simp [putD]
  ·rw [if_neg e2,if_neg e2]
theorem tInsert {g:Nat} {cf:Stp'→Stp'→Int} {ok:Stp'→Prop} (hc:CmpT g cf ok) (P M S:List Stp') (hok:∀ x,x∈M→ok x) (hl:P.length+(M.length+S.length)≤4611686018427387904) :
  Ctr Tryz.prog 94 [.osl 900,.d (.int .i64 P.length),.d (.int .i64 ((P.length+M.length:Nat):Int)),fnT g] [(900,rowT (P++(M++S)))] (.tup []) [(900,rowT (P++(srt (ltT cf) [] M++S)))] []:=by
 refine qO Tryz.func94 ?_
 intro c hP hfn
 have w1:IntKind.i64.wrap ((P.length:Int)+1)=((P.length+1:Nat):Int):=wS (by omega)
 simp only [namesL,V.names,ownNames,rowT,fnT,w1,vcd,↓vcp,seval]
 refine vcC.loop (X:=Nat×List Stp') (fun x=>⟨[(0,.osl 900),(1,.d (.int .i64 P.length)),(2,.d (.int .i64 ((P.length+M.length:Nat):Int))),(3,fnT g),(8,.d (.int .i64 (x.1:Nat)))],[(900,rowT x.2)],[900]⟩)
  (fun x=>∃ k,x.1=P.length+k∧1≤k∧(k≤M.length∨k=1)∧x.2=P++(srt (ltT cf) [] (M.take k)++(M.drop k++S))) (fun x=>P.length+M.length-x.1) (P.length+1,P++(M++S)) ⟨1,rfl,Nat.le_refl _,.inr rfl,?_⟩ (Wk.of _ hfn rfl (by simp only [fnT,enb,vcd,↓vcp,seval]) (by simp only [rowT,enb,vcd,↓vcp,seval])) ?_
 ·cases M with
  |nil=>rfl
  |cons a M=>simp [srt,mrg]
 rintro ⟨i,l⟩ ⟨k,hi,h1,hk,hL⟩
 simp only at hi hL
 by_cases hlt:k<M.length
 ·obtain ⟨e,hd,hg,hm,he⟩:=drop_at hlt
  have oke:=hok e hm
  have d0:decide ((i:Int)<((P.length+M.length:Nat):Int))=true:=decide_eq_true (by omega)
  have tl:(srt (ltT cf) [] (M.take k)).length=k:=by rw [srt_len,List.length_take];simp;omega
  have okT:∀ x,x∈srt (ltT cf) [] (M.take k)→ok x:=fun x hx=>hok x (List.mem_of_mem_take (by simpa using (srt_perm (ltT cf) (M.take k) []).mem_iff.1 hx))
  have hT2:srt (ltT cf) [] (M.take (k+1))=mrg (ltT cf) (srt (ltT cf) [] (M.take k)) [e]:=by
   rw [List.take_add_one,he,srt_app];rfl
  simp only [rowT,fnT,d0,vcd,↓vcp,seval]
  repeat' first|refine ⟨fun h=>?_,fun h=>?_⟩|refine aX ?_|fail
  refine vcC.loop (X:=Nat×List Stp') (fun x=>⟨[(0,.osl 900),(1,.d (.int .i64 P.length)),(2,.d (.int .i64 ((P.length+M.length:Nat):Int))),(3,fnT g),(8,.d (.int .i64 (i:Nat))),(9,.d (.int .i64 (x.1:Nat)))],[(900,rowT x.2)],[900]⟩)
   (fun x=>∃ A B,A++B=srt (ltT cf) [] (M.take k)∧(∀ b,b∈B→ltT cf e b=true)∧x.1=P.length+A.length∧x.2=P++(A++(e::(B++(M.drop (k+1)++S))))) (fun x=>x.1) (i,l) ⟨_,[],List.append_nil _,fun b hb=>by simp at hb,by rw [tl];exact hi,by rw [hL,hd];simp⟩ (Wk.of _ hfn rfl (by simp only [fnT,enb,vcd,↓vcp,seval]) (by simp only [rowT,enb,vcd,↓vcp,seval])) ?_
  rintro ⟨j,r⟩ ⟨A,B,hAB,hB,hj,hr⟩
  simp only at hj hr
  have hlA:A.length+B.length=k:=by rw [←tl,←hAB,List.length_append]
  have hrl:r.length=P.length+(M.length+S.length):=by rw [hr];simp only [List.length_append,List.length_cons,List.length_drop];omega
  have gj:r.getD j sd=e:=by rw [hr,hj,←List.append_assoc];exact getD_t (by simp)
  have bj:(0:Int)≤(j:Int)∧(j:Int)<(r.length:Int):=by omega
  have w2:IntKind.i64.wrap ((i:Int)+1)=((i+1:Nat):Int):=wS (by omega)
  by_cases hA:A.length=0
  ·have hA0:A=[]:=List.eq_nil_of_length_eq_zero hA
   subst hA0
   rw [List.nil_append] at hAB
   have hres:r=P++(srt (ltT cf) [] (M.take (k+1))++(M.drop (k+1)++S)):=by
    rw [hr,hT2,←hAB,mrg_one_lo hB];simp
   have d1:decide ((j:Int)>(P.length:Int))=false:=decide_eq_false (by simp at hj;omega)
   simp only [rowT,fnT,d1,w2,vcd,↓vcp,seval]
   refine TR.gpw (gc:=false) (first:=[]) (cap:=[]) (f:=0) (res:=.d (.int .i64 0)) hP rfl (fun h=>by cases h) (fun h=>by cases h) (fun h=>by cases h) (fun h=>by cases h) ?_
   simp only [w2,vcd,↓vcp,seval]
   repeat' first|refine ⟨fun h=>?_,fun h=>?_⟩|refine aX ?_|fail
   refine lopK.on (i+1,r) ⟨k+1,by simp only;omega,by omega,.inl hlt,hres⟩ (by simp only;omega) (Wk.of _ hfn rfl (by simp only [fnT,enb,vcd,↓vcp,seval]) (by simp only [rowT,enb,vcd,↓vcp,seval]))
  ·obtain ⟨A,x,rfl⟩:∃ A' x,A=A'++[x]:=by
    rcases List.eq_nil_or_concat A with h|⟨m,x,h⟩
    ·rw [h] at hA;exact absurd rfl hA
    ·exact ⟨m,x,by simpa using h⟩
   simp only [List.length_append,List.length_singleton] at hj hlA
   have d1:decide ((j:Int)>(P.length:Int))=true:=decide_eq_true (by omega)
   have e1:IntKind.i64.wrap ((j:Int)-1)=((j-1:Nat):Int):=by rw [wI (by omega)];omega
   have b1:(0:Int)≤((j-1:Nat):Int)∧((j-1:Nat):Int)<(r.length:Int):=by omega
   have g1:r.getD (j-1) sd=x:=by
    have:r=(P++A)++x::(e::(B++(M.drop (k+1)++S))):=by rw [hr];simp
    rw [this];exact getD_t (by simp;omega)
   have okx:ok x:=okT x (by rw [←hAB];simp)
   have cc:=hc.c e x oke okx
   simp only [rowT,fnT,d1,e1,gj,g1,vcd,↓vcp,seval]
   repeat' first|refine ⟨fun h=>?_,fun h=>?_⟩|refine aX ?_|fail
   refine TR.gpw (gc:=true) hP rfl (fun _=>rfl) (fun _=>cc) (by intro _;simp only [vcd,↓vcp,seval]) (by intro _;simp only [vcd,↓vcp,seval]) ?_
   simp only [e1,gj,g1,vcd,↓vcp,seval]
   repeat' first|refine ⟨fun h=>?_,fun h=>?_⟩|refine aX ?_|fail
   ·refine lopK.on (j-1,swq sd r j (j-1)) ⟨A,x::B,by rw [←hAB];simp,fun b hb=>?_,by simp only;omega,?_⟩ (by simp only;omega) (Wk.of _ hfn rfl (by simp only [fnT,enb,vcd,↓vcp,seval]) ?_)
    ·rcases List.mem_cons.1 hb with rfl|hb
     ·exact h
     ·exact hB b hb
    ·have:r=(P++A)++x::e::(B++(M.drop (k+1)++S)):=by rw [hr];simp
     simp only [this]
     rw [swq_next' sd (P++A) x e _ (by simp;omega) (by simp;omega)];simp
    ·simp only [rowT,enb,vcd,↓vcp,seval]
     exact OLe.swt (by omega) (by omega) gj g1 rfl
   ·have hlo:∀ a,a∈A++[x]→ltT cf e a=false:=fun a ha=>by
     have hS:=srt_sorted hc.w (M.take k) [] List.Pairwise.nil
     rw [←hAB] at hS
     have h8:ltT cf e x=false:=h
     rcases List.mem_append.1 ha with h9|h9
     ·have hS1:=(List.pairwise_append.1 (List.pairwise_append.1 hS).1).2.2 a h9 x (by simp)
      exact hc.w.nt e x a h8 hS1
     ·rw [List.mem_singleton.1 h9];exact h8
    refine lopK.on (i+1,r) ⟨k+1,by simp only;omega,by omega,.inl hlt,?_⟩ (by simp only;omega) (Wk.of _ hfn rfl (by simp only [fnT,w2,enb,vcd,↓vcp,seval]) (by simp only [rowT,enb,vcd,↓vcp,seval]))
    simp only
    rw [hr,hT2,←hAB,mrg_ins1 hB hlo];simp
 ·have d0:decide ((i:Int)<((P.length+M.length:Nat):Int))=false:=decide_eq_false (by omega)
  have e1:M.take k=M:=List.take_of_length_le (by omega)
  have e2:M.drop k=[]:=List.drop_eq_nil_of_le (by omega)
  rw [e1,e2,List.nil_append] at hL
  simp only [rowT,fnT,d0,vcd,↓vcp,seval]
  repeat' first|refine ⟨fun h=>?_,fun h=>?_⟩|refine aX ?_|fail
  refine rK' (Wk.refl _ _) ?_
  simp only [hL,enb,vcd,↓vcp,seval]
theorem tSwapR {g:Nat} (l:List Stp') (a b n:Nat) (h1:a+n≤b) (h2:b+n≤l.length) (hl:l.length≤4611686018427387904) :
  Ctr Tryz.prog 169 [.osl 900,.d (.int .i64 (a:Int)),.d (.int .i64 (b:Int)),.d (.int .i64 (n:Int)),fnT g] [(900,rowT l)] (.tup []) [(900,rowT (blkq sd l a b n))] []:=by
 refine qO Tryz.func169 ?_
 intro c hP hfn
 simp only [namesL,V.names,ownNames,rowT,fnT,vcd,↓vcp,seval]
 refine vcC.loop (X:=Nat×List Stp') (fun x=>⟨[(0,.osl 900),(1,.d (.int .i64 (a:Int))),(2,.d (.int .i64 (b:Int))),(3,.d (.int .i64 (n:Int))),(10,.d (.int .i64 (x.1:Nat)))],[(900,rowT x.2)],[900]⟩)
  (fun x=>x.1≤n∧x.2=blkq sd l a b x.1) (fun x=>n-x.1) (0,l) ⟨Nat.zero_le _,(blkq_zero sd l a b).symm⟩ (Wk.of _ hfn rfl (by simp only [fnT,enb,vcd,↓vcp,seval]) (by simp only [rowT,enb,vcd,↓vcp,seval])) ?_
 rintro ⟨k,r⟩ ⟨hk,hr⟩
 simp only at hk hr
 have hrl:r.length=l.length:=by rw [hr,blkq_len]
 by_cases hlt:k<n
 ·have d0:decide ((k:Int)<(n:Int))=true:=decide_eq_true (by omega)
  have w1:IntKind.i64.wrap ((a:Int)+(k:Int))=((a+k:Nat):Int):=(wI (by omega)).trans (by omega)
  have w2:IntKind.i64.wrap ((b:Int)+(k:Int))=((b+k:Nat):Int):=(wI (by omega)).trans (by omega)
  have w3:IntKind.i64.wrap ((k:Int)+1)=((k+1:Nat):Int):=wS (by omega)
  have b1:(0:Int)≤((a+k:Nat):Int)∧((a+k:Nat):Int)<(r.length:Int):=by omega
  have b2:(0:Int)≤((b+k:Nat):Int)∧((b+k:Nat):Int)<(r.length:Int):=by omega
  obtain ⟨u,gu⟩:∃ u,r.getD (a+k) sd=u:=⟨_,rfl⟩
  obtain ⟨v,gv⟩:∃ v,r.getD (b+k) sd=v:=⟨_,rfl⟩
  simp only [rowT,d0,w1,w2,gu,gv,vcd,↓vcp,seval]
  repeat' first|refine ⟨fun h=>?_,fun h=>?_⟩|refine aX ?_|fail
  refine lopK.on (k+1,swq sd r (a+k) (b+k)) ⟨by simp only;omega,?_⟩ (by simp only;omega) (Wk.of _ hfn rfl (by simp only [w3,enb,vcd,↓vcp,seval]) ?_)
  ·simp only [hr];exact blkq_step sd (by omega) (by omega)
  ·simp only [rowT,enb,vcd,↓vcp,seval]
   exact OLe.swt (by omega) (by omega) gu gv rfl
 ·have d0:decide ((k:Int)<(n:Int))=false:=decide_eq_false (by omega)
  have hkn:k=n:=by omega
  subst hkn
  simp only [rowT,d0,vcd,↓vcp,seval]
  repeat' first|refine ⟨fun h=>?_,fun h=>?_⟩|refine aX ?_|fail
  refine rK' (Wk.refl _ _) ?_
  simp only [hr,enb,vcd,↓vcp,seval]
theorem tRotate {g:Nat} (P U W S:List Stp') (hu:0<U.length) (hw:0<W.length) (hl:P.length+U.length+W.length+S.length≤4611686018427387904) :
  Ctr Tryz.prog 139 [.osl 900,.d (.int .i64 (P.length:Int)),.d (.int .i64 ((P.length+U.length:Nat):Int)),.d (.int .i64 ((P.length+U.length+W.length:Nat):Int)),fnT g] [(900,rowT (P++(U++(W++S))))] (.tup []) [(900,rowT (P++(W++(U++S))))] []:=by
 refine qO Tryz.func139 ?_
 intro c hP hfn
 have w1:IntKind.i64.wrap (((P.length+U.length:Nat):Int)-(P.length:Int))=((U.length:Nat):Int):=(wI (by omega)).trans (by omega)
 have w2:IntKind.i64.wrap (((P.length+U.length+W.length:Nat):Int)-((P.length+U.length:Nat):Int))=((W.length:Nat):Int):=(wI (by omega)).trans (by omega)
 simp only [namesL,V.names,ownNames,rowT,fnT,w1,w2,vcd,↓vcp,seval]
 refine vcC.loop (X:=Nat×Nat×List Stp') (fun x=>⟨[(0,.osl 900),(2,.d (.int .i64 ((P.length+U.length:Nat):Int))),(4,fnT g),(10,.d (.int .i64 (x.1:Nat))),(11,.d (.int .i64 (x.2.1:Nat)))],[(900,rowT x.2.2)],[900]⟩)
  (fun x=>∃ P' U' W' S',x.1=U'.length∧x.2.1=W'.length∧0<U'.length∧0<W'.length∧P'.length+U'.length=P.length+U.length∧P'.length+U'.length+W'.length+S'.length≤4611686018427387904∧x.2.2=P'++(U'++(W'++S'))∧P++(W++(U++S))=P'++(W'++(U'++S'))) (fun x=>x.1+x.2.1) (U.length,W.length,P++(U++(W++S)))
  ⟨P,U,W,S,rfl,rfl,hu,hw,rfl,hl,rfl,rfl⟩ (Wk.of _ hfn rfl (by simp only [fnT,enb,vcd,↓vcp,seval]) (by simp only [rowT,enb,vcd,↓vcp,seval])) ?_
 rintro ⟨i,j,r⟩ ⟨P',U',W',S',hi,hj,h1,h2,h3,h5,hr,h4⟩
 simp only at hi hj hr
 have hrl:r.length=P'.length+U'.length+W'.length+S'.length:=by rw [hr];simp only [List.length_append];omega
 have w3:IntKind.i64.wrap (((P.length+U.length:Nat):Int)-(i:Int))=((P'.length:Nat):Int):=(wI (by omega)).trans (by omega)
 by_cases hne:i=j
 ·have d0:((i:Int) != (j:Int))=false:=by rw [bne_eq_false_iff_eq];omega
  have cc:=tSwapR (g:=g) r P'.length (P.length+U.length) i (by omega) (by omega) (by omega)
  simp only [rowT,fnT] at cc
  simp only [rowT,fnT,d0,w3,vcd,↓vcp,seval]
  repeat' first|refine ⟨fun h=>?_,fun h=>?_⟩|refine aX ?_|fail
  refine TR.call [(900,rowT r)] [(900,rowT (blkq sd r P'.length (P.length+U.length) i))] _ [] (by rw [hP];exact cc) (by repeat' first|exact trivial|(intro _;assumption)|apply And.intro) (hin1 rfl) (by simp [keysO]) (by simp) ?_
  simp only [vcd,↓vcp,seval]
  repeat' first|refine ⟨fun h=>?_,fun h=>?_⟩|refine aX ?_|fail
  refine rK' (Wk.refl _ _) ?_
  have e:blkq sd r P'.length (P.length+U.length) i=P++(W++(U++S)):=by
   rw [hr,h4,hi]
   have:=blkq_app sd P' U' [] W' S' (by omega) (a:=P'.length) (b:=P.length+U.length) rfl (by simp;omega)
   simpa using this
  rw [e]
  simp only [rowT,enb,vcd,↓vcp,seval]
 ·have d0:((i:Int) != (j:Int))=true:=by rw [bne_iff_ne];omega
  by_cases hgt:i>j
  ·have d1:decide ((i:Int)>(j:Int))=true:=decide_eq_true (by omega)
   have cc:=tSwapR (g:=g) r P'.length (P.length+U.length) j (by omega) (by omega) (by omega)
   have w4:IntKind.i64.wrap ((i:Int)-(j:Int))=((i-j:Nat):Int):=(wI (by omega)).trans (by omega)
   simp only [rowT,fnT] at cc
   simp only [rowT,fnT,d0,d1,w3,vcd,↓vcp,seval]
   repeat' first|refine ⟨fun h=>?_,fun h=>?_⟩|refine aX ?_|fail
   refine TR.call [(900,rowT r)] [(900,rowT (blkq sd r P'.length (P.length+U.length) j))] _ [] (by rw [hP];exact cc) (by repeat' first|exact trivial|(intro _;assumption)|apply And.intro) (hin1 rfl) (by simp [keysO]) (by simp) ?_
   simp only [w4,vcd,↓vcp,seval]
   repeat' first|refine ⟨fun h=>?_,fun h=>?_⟩|refine aX ?_|fail
   have tk:∀ Z,U'.take j++(U'.drop j++Z)=U'++Z:=fun Z=>by rw [←List.append_assoc,List.take_append_drop]
   have e:blkq sd r P'.length (P.length+U.length) j=(P'++W')++(U'.drop j++(U'.take j++S')):=by
    rw [hr]
    have:=blkq_app sd P' (U'.take j) (U'.drop j) W' S' (by rw [List.length_take];omega) (a:=P'.length) (b:=P.length+U.length) rfl (by rw [List.length_take,List.length_drop];omega)
    rw [List.length_take,Nat.min_eq_left (by omega)] at this
    simpa [tk] using this
   rw [e]
   refine lopK.on (i-j,j,(P'++W')++(U'.drop j++(U'.take j++S'))) ⟨P'++W',U'.drop j,U'.take j,S',?_,?_,?_,?_,?_,?_,rfl,?_⟩ (by simp only;omega) (Wk.of _ hfn rfl (by simp only [fnT,w4,enb,vcd,↓vcp,seval]) (by simp only [rowT,enb,vcd,↓vcp,seval]))
   ·rw [List.length_drop];simp only;omega
   ·rw [List.length_take];simp only;omega
   ·rw [List.length_drop];omega
   ·rw [List.length_take];omega
   ·rw [List.length_drop,List.length_append];omega
   ·rw [List.length_drop,List.length_append,List.length_take];omega
   ·rw [h4];simp [tk]
  ·have d1:decide ((i:Int)>(j:Int))=false:=decide_eq_false (by omega)
   have w5:IntKind.i64.wrap (((P.length+U.length:Nat):Int)+(j:Int))=((P.length+U.length+j:Nat):Int):=(wI (by omega)).trans (by omega)
   have w6:IntKind.i64.wrap (((P.length+U.length+j:Nat):Int)-(i:Int))=((P.length+U.length+j-i:Nat):Int):=(wI (by omega)).trans (by omega)
   have w4:IntKind.i64.wrap ((j:Int)-(i:Int))=((j-i:Nat):Int):=(wI (by omega)).trans (by omega)
   have cc:=tSwapR (g:=g) r P'.length (P.length+U.length+j-i) i (by omega) (by omega) (by omega)
   simp only [rowT,fnT] at cc
   simp only [rowT,fnT,d0,d1,w3,w5,w6,vcd,↓vcp,seval]
   repeat' first|refine ⟨fun h=>?_,fun h=>?_⟩|refine aX ?_|fail
   refine TR.call [(900,rowT r)] [(900,rowT (blkq sd r P'.length (P.length+U.length+j-i) i))] _ [] (by rw [hP];exact cc) (by repeat' first|exact trivial|(intro _;assumption)|apply And.intro) (hin1 rfl) (by simp [keysO]) (by simp) ?_
   simp only [w4,vcd,↓vcp,seval]
   repeat' first|refine ⟨fun h=>?_,fun h=>?_⟩|refine aX ?_|fail
   have tk:∀ Z,W'.take (j-i)++(W'.drop (j-i)++Z)=W'++Z:=fun Z=>by rw [←List.append_assoc,List.take_append_drop]
   have e:blkq sd r P'.length (P.length+U.length+j-i) i=P'++(W'.drop (j-i)++(W'.take (j-i)++(U'++S'))):=by
    rw [hr,hi]
    have:=blkq_app sd P' U' (W'.take (j-U'.length)) (W'.drop (j-U'.length)) S' (by rw [List.length_drop];omega) (a:=P'.length) (b:=P.length+U.length+j-U'.length) rfl (by rw [List.length_take];omega)
    rw [←hi] at this ⊢
    simpa [tk] using this
   rw [e]
   refine lopK.on (i,j-i,P'++(W'.drop (j-i)++(W'.take (j-i)++(U'++S')))) ⟨P',W'.drop (j-i),W'.take (j-i),U'++S',?_,?_,?_,?_,?_,?_,rfl,?_⟩ (by simp only;omega) (Wk.of _ hfn rfl (by simp only [fnT,w4,enb,vcd,↓vcp,seval]) (by simp only [rowT,enb,vcd,↓vcp,seval]))
   ·rw [List.length_drop];simp only;omega
   ·rw [List.length_take];simp only;omega
   ·rw [List.length_drop];omega
   ·rw [List.length_take];omega
   ·rw [List.length_drop];omega
   ·rw [List.length_drop,List.length_append,List.length_take];omega
   ·rw [h4];simp [tk]
end Go.Proofs.YtmccbkekpjgdbaaGreat
end
