import Derived.Test.YtakohhkgeeoniaaGreatXA6
import Derived.Test.YtakohhkgeeoniaaGreatRows
import Derived.KernelRfl
set_option linter.unusedSimpArgs false
set_option linter.unusedVariables false
set_option maxHeartbeats 8000000
section
namespace Go.Proofs.YtakohhkgeeoniaaGreat
open Go.Bx
set_option maxRecDepth 10000
structure Cv where
 pe:Int
 li:Int
 ag:Int
 de:Int
 sh:Int
deriving DecidableEq
instance:Inhabited Cv:=⟨⟨0,0,0,0,0⟩⟩
def cC (c:Cv):List V:=[.d (.int .i64 c.pe),.d (.int .i64 c.li),.d (.int .i64 c.ag),.d (.int .i64 c.de),.d (.int .i64 c.sh)]
def vC (c:Cv):V:=.ag (cC c)
def ub (l:List Int):Nat→Bool
 |0=>true
 |k+1=>!(decide (l.getD (k+1) 0<l.getD k 0))&&ub l k
theorem sNaN (a:Int):Aj Tryz.prog 112 [.d (.int .i64 a)] [] (.d (.bool false)) [] []:=by
 refine qP Tryz.func112 λc hP hfn=>?_;simp only [A0,↓A3,seval]
 (refine rq ?_;first|exact ⟨⟩|simp)
theorem yd (a b:Int):Aj Tryz.prog 84 [.d (.int .i64 a),.d (.int .i64 b)] [] (.d (.bool (decide (a<b)))) [] []:=by
 refine qP Tryz.func84 λc hP hfn=>?_;simp only [A0,↓A3,seval]
 repeat' first|(refine tz hP (sNaN ..) ?_;try simp only [A0,↓A3,seval])|refine ⟨λh=>?_,λh=>?_⟩|refine aX ?_|fail
 (refine rq ?_;first|exact ⟨⟩|simp)
theorem uv (l:List Int) (hl:l.length≤9223372036854775807):Aj Tryz.prog 52 [.d (slK .i64 l)] [] (.d (.bool (ub l (l.length-1)))) [] []:=by
 refine qP Tryz.func52 λc hP hfn=>?_;simp only [A0,↓A3,seval]
 refine B4.loop (X:=Int) (λx=>⟨[(0,.d (slK .i64 l)),(3,.d (.int .i64 x))],[],[]⟩)
  (λx=>-1≤x∧x<l.length∧ub l (l.length-1)=ub l x.toNat) (λx=>x.toNat) ((l.length:Int)-1) ⟨by omega,by omega,by congr 1;omega⟩ (Wk.of [] hfn rfl (by simp only [A7,A0,↓A3,seval];exact wI (by omega)) (by simp only [A7,A0,↓A3,seval])) ?_
 rintro x ⟨h0,h1,he⟩
 simp only [A0,↓A3,seval]
 refine ⟨λh2=>?_,λh2=>?_⟩
 ·have h2:=of_decide_eq_true h2
  have e1:IntKind.i64.wrap (x-1)=x-1:=wI (by omega)
  have e2:x.toNat=(x-1).toNat+1:=by omega
  rw [e2,ub,←e2] at he
  simp only [e1]
  repeat' first|(refine tz hP (yd ..) ?_;try simp only [e1,A0,↓A3,seval])|refine ⟨λh=>?_,λh=>?_⟩|refine aX ?_|fail
  ·(refine rq ?_;first|exact ⟨⟩|(rw [he,h];rfl))
  ·rw [h] at he
   exact Al.on (x-1) ⟨by omega,by omega,by rw [he];rfl⟩ (by omega) (Wk.of [] hfn rfl (by simp only [A7,A0,↓A3,seval]) (by simp only [A7,A0,↓A3,seval]))
 ·have h2:=of_decide_eq_false h2
  have e2:x.toNat=0:=by omega
  rw [e2,ub] at he
  (refine rq ?_;first|exact ⟨⟩|rw [he])
theorem mj {full:Bool} {n:Nat} {ds:List D} {l:List Int} (h:Pv .i64 ds l) (hn:n=l.length) (hl:l.length≤9223372036854775807):Aj Tryz.prog 52 [.d (.sl full 1 n (litRow 1 ds))] [] (.d (.bool (ub l (l.length-1)))) [] []:=
 (uv l hl).arg ⟨h.vle hn,trivial⟩
def E2 (c:Cv):Bool:=decide (c.pe≥0)&&decide (c.pe<8)&&(decide (c.sh≥1)&&decide (c.sh≤10000))&&ub [0,c.de,IntKind.i64.wrap (c.li-1),IntKind.i64.wrap (c.ag-1),999999999999999] 4&&decide (c.de<c.li)
theorem Uc (k:Cv):Aj Tryz.prog 21 [vC k] [] (.d (.bool (E2 k))) [] []:=by
 refine qP Tryz.func21 λc hP hfn=>?_;simp only [vC,cC,A0,↓A3,seval]
 repeat' first|(refine tq hP (h:=⟨_,λ_=>by exact mj (by repeat constructor) (by rfl) (by simp),?_⟩);try simp only [A0,↓A3,seval])|refine ⟨λh=>?_,λh=>?_⟩|refine aX ?_|fail
 exact rr
structure Ri (k:Cv):Prop where
 pe:0≤k.pe∧k.pe<8
 sh:1≤k.sh∧k.sh≤10000
 de:0≤k.de∧k.de<k.li
 li:k.li≤k.ag
 ag:k.ag≤1000000000000000
theorem dw {k:Cv} (h1:R8 k.li) (h2:R8 k.ag):E2 k=true↔Ri k:=by
 unfold R8 at h1 h2
 simp only [E2,ub,Bool.and_eq_true,decide_eq_true_eq,IntKind.wrap_i64,List.getD_cons_succ,List.getD_cons_zero,Bool.not_eq_true',decide_eq_false_iff_not]
 constructor
 ·intro h
  exact ⟨by omega,by omega,by omega,by omega,by omega⟩
 ·rintro ⟨a,b,c,d,e⟩
  exact ⟨⟨⟨⟨by omega,by omega⟩,by omega,by omega⟩,by omega,by omega,by omega,by omega,trivial⟩,by omega⟩
structure Rk where
 kd:Int
 va:Int
 ag:Int
 zo:Int
deriving DecidableEq
instance:Inhabited Rk:=⟨⟨0,0,0,0⟩⟩
def cR (r:Rk):List V:=[.d (.int .i64 r.kd),.d (.int .i64 r.va),.d (.int .i64 r.ag),.d (.int .i64 r.zo)]
def vR (r:Rk):V:=.ag (cR r)
def Ih (r:Rk):Bool:=decide (0≤r.kd∧r.kd<4∧1≤r.va∧r.va≤1000000000000000∧0≤r.ag∧r.ag≤200∧0≤r.zo∧r.zo<100)
theorem Pk {r:Rk}:Ih r=true↔0≤r.kd∧r.kd<4∧1≤r.va∧r.va≤1000000000000000∧0≤r.ag∧r.ag≤200∧0≤r.zo∧r.zo<100:=by simp only [Ih,decide_eq_true_eq]
theorem mu (r:Rk):Aj Tryz.prog 147 [vR r] [] (.d (.bool (Ih r))) [] []:=by
 have hr:=@Pk r
 refine qP Tryz.func147 λc hP hfn=>?_;simp only [vR,cR,A0,↓A3,seval]
 (refine rq ?_;first|exact ⟨⟩|(rw [Bool.eq_iff_iff,hr];simp only [Bool.and_eq_true,decide_eq_true_eq];omega))
def Rg (x:Int):Bool:=decide (0≤x∧x≤100000)
theorem X7 {x:Int}:Rg x=true↔0≤x∧x≤100000:=by simp only [Rg,decide_eq_true_eq]
def Rl (p:Int→Bool):Nat→List Int→Int
 |_,[]=>-1
 |k,x::r=>if p x=true then (k:Int) else Rl p (k+1) r
theorem Vd (p:Int→Bool):∀ (l:List Int) (k:Nat),decide (Rl p k l≥0)=l.any p
 |[],k=>by simp [Rl]
 |x::r,k=>by
  by_cases h:p x=true
  ·simp [Rl,h]
  ·simp [Rl,h];simpa using Vd p r (k+1)
theorem qo (g:Nat) (p:Int→Bool) (hg:∀ x,Aj Tryz.prog g [.d (.int .i64 x)] [] (.d (.bool (p x))) [] []) (l:List Int) (hl:l.length≤9223372036854775807):Aj Tryz.prog 186 [.d (slK .i64 l),.fn (.func g) [] []] [] (.d (.int .i64 (Rl p 0 l))) [] []:=by
 refine qP Tryz.func186 λc hP hfn=>?_;simp only [A0,↓A3,seval]
 refine B4.loop (X:=Nat) (λk=>⟨[(0,.d (slK .i64 l)),(1,.fn (.func g) [] []),(7,.d (.int .i64 l.length)),(8,.d (.int .i64 k))],[],[]⟩)
  (λk=>k≤l.length∧Rl p 0 l=Rl p k (l.drop k)) (λk=>l.length-k) 0 ⟨Nat.zero_le _,rfl⟩ (Wk.of [] hfn rfl (by (simp only [A7,A0,↓A3,seval])<;>(first|exact wS (by omega)|(rw [List.length_append];exact wS (by omega))|assumption)) (by simp only [A7,A0,↓A3,seval])) ?_
 rintro k ⟨hk,he⟩
 simp only [A0,↓A3,seval]
 refine ⟨λh1=>?_,λh1=>?_⟩
 ·have hlt:k<l.length:=by simpa using h1
  obtain ⟨x,hd,hg',-,-⟩:=Ae hlt
  simp only [hg']
  rw [hd,Rl] at he
  repeat' first|(refine tz hP (hg x) ?_;try simp only [A0,↓A3,seval])|refine ⟨λh=>?_,λh=>?_⟩|refine aX ?_|fail
  ·(refine rq ?_;first|exact ⟨⟩|rw [he,if_pos h])
  ·refine Al.on (k+1) ⟨hlt,?_⟩ (by omega) (Wk.of [] hfn rfl (by (simp only [A7,A0,↓A3,seval])<;>(first|exact wS (by omega)|(rw [List.length_append];exact wS (by omega))|assumption)) (by simp only [A7,A0,↓A3,seval]))
   rw [he,h];simp
 ·have hkl:k=l.length:=by simp at h1;omega
  rw [hkl] at he
  (refine rq ?_;first|exact ⟨⟩|simp [he,Rl])
theorem Yo (g:Nat) (p:Int→Bool) (hg:∀ x,Aj Tryz.prog g [.d (.int .i64 x)] [] (.d (.bool (p x))) [] []) (l:List Int) (hl:l.length≤9223372036854775807):Aj Tryz.prog 183 [.d (slK .i64 l),.fn (.func g) [] []] [] (.d (.bool (l.any p))) [] []:=by
 refine qP Tryz.func183 λc hP hfn=>?_;simp only [A0,↓A3,seval]
 repeat' first|(refine tz hP (qo g p hg l hl) ?_;try simp only [A0,↓A3,seval])|refine ⟨λh=>?_,λh=>?_⟩|refine aX ?_|fail
 (refine rq ?_;first|exact ⟨⟩|exact Vd p l 0)
theorem sFac1 (x:Int):Aj Tryz.prog 184 [.d (.int .i64 x)] [] (.d (.bool (!(Rg x)))) [] []:=by
 refine qP Tryz.func184 λc hP hfn=>?_;simp only [A0,↓A3,seval]
 (refine rq ?_;first|exact ⟨⟩|(rw [Bool.eq_iff_iff];simp only [Rg,Bool.or_eq_true,Bool.not_eq_true',decide_eq_true_eq,decide_eq_false_iff_not];omega))
theorem Pb (l:List Int) (hl:l.length≤9223372036854775807):Aj Tryz.prog 178 [.d (slK .i64 l)] [] (.d (.bool (l.all Rg))) [] []:=by
 refine qP Tryz.func178 λc hP hfn=>?_;simp only [A0,↓A3,seval]
 repeat' first|(refine tz hP (Yo _ _ sFac1 l hl) ?_;try simp only [A0,↓A3,seval])|refine ⟨λh=>?_,λh=>?_⟩|refine aX ?_|fail
 (refine rq ?_;first|exact ⟨⟩|simp [List.any_eq_not_all_not])
def Br (l:List (Int×Int)):D:=.sl false 2 l.length (λi=>[.int .i64 (l.getD i default).1,.int .i64 (l.getD i default).2])
def Jp:Int→List (Int×Int)→Bool
 |_,[]=>true
 |last,b::r=>decide (last<b.1∧b.1≤200∧0≤b.2∧b.2≤100000)&&Jp b.1 r
def Oz (l:List (Int×Int)):Bool:=Jp (-1) l&&decide (l.length≤100)
theorem zb (l:List (Int×Int)) (hl:l.length≤9223372036854775807):Aj Tryz.prog 179 [.d (Br l)] [] (.d (.bool (Oz l))) [] []:=by
 refine qP Tryz.func179 λc hP hfn=>?_;simp only [Br,A0,↓A3,seval]
 refine B4.loop (X:=Nat×Int) (λx=>⟨[(0,.d (Br l)),(3,.d (.int .i64 x.2)),(6,.d (Br l)),(7,.d (.int .i64 l.length)),(8,.d (.int .i64 x.1))],[],[]⟩)
  (λx=>x.1≤l.length∧Jp (-1) l=Jp x.2 (l.drop x.1)) (λx=>l.length-x.1) (0,-1) ⟨Nat.zero_le _,rfl⟩ (Wk.of [] hfn rfl (by (simp only [Br,A7,A0,↓A3,seval])<;>(first|exact wS (by omega)|(rw [List.length_append];exact wS (by omega))|assumption)) (by simp only [A7,A0,↓A3,seval])) ?_
 rintro ⟨k,last⟩ ⟨hk,he⟩
 simp only at hk he
 simp only [Br,A0,↓A3,seval]
 refine ⟨λh1=>?_,λh1=>?_⟩
 ·have hlt:k<l.length:=by have:=of_decide_eq_true h1;omega
  obtain ⟨x,hd,hg,-,-⟩:=Ae hlt
  simp only [hg]
  rw [hd,Jp] at he
  repeat' first|refine ⟨λh=>?_,λh=>?_⟩|(refine tA rfl rfl rfl rfl ?_;try simp only [hg,A0,↓A3,seval])|refine aX ?_|fail
  ·have hb:¬ (last<x.1∧x.1≤200∧0≤x.2∧x.2≤100000):=by simp only [Bool.or_eq_true,decide_eq_true_eq] at h;omega
   (refine rq ?_;first|exact ⟨⟩|(rw [Oz,he];simp [hb]))
  ·have hb:(last<x.1∧x.1≤200∧0≤x.2∧x.2≤100000):=by simp only [Bool.or_eq_false_iff,decide_eq_false_iff_not] at h;omega
   refine Al.on (k+1,x.1) ⟨hlt,?_⟩ (by simp only;omega) (Wk.of [] hfn rfl (by (simp only [Br,A7,A0,↓A3,seval])<;>(first|exact wS (by omega)|(rw [List.length_append];exact wS (by omega))|assumption)) (by simp only [A7,A0,↓A3,seval]))
   rw [he];simp [hb]
 ·have hkl:k=l.length:=by have:=of_decide_eq_false h1;omega
  rw [hkl,List.drop_length,Jp] at he
  (refine rq ?_;first|exact ⟨⟩|(rw [Oz,he,Bool.true_and,Bool.eq_iff_iff];simp only [decide_eq_true_eq];omega))
def Ej:List (Int×Int)→Int→Int
 |[],_=>10000
 |b::r,a=>if b.1<a then Ej r a else b.2
theorem X3 {full:Bool} {l:List (Int×Int)} {k m:Nat} (hm:m=(l.drop (k+1)).length):Ag (.d (.sl full 2 m (λi=>[.int .i64 ((l.drop k).getD (1+i) default).1,.int .i64 ((l.drop k).getD (1+i) default).2]))) (.d (Br (l.drop (k+1)))):=
 Ag.sl hm (λ_=>rfl) (by simp) λi hi=>by
  have:∀ d,(l.drop k).getD (1+i) d=(l.drop (k+1)).getD i d:=λd=>by
   rw [List.getD_eq_getElem?_getD,List.getD_eq_getElem?_getD,List.getElem?_drop,List.getElem?_drop,show k+(1+i)=k+1+i by omega]
  rw [this]
theorem sBand (l:List (Int×Int)) (a:Int) (hl:l.length≤9223372036854775807):Aj Tryz.prog 166 [.d (Br l),.d (.int .i64 a)] [] (.d (.int .i64 (Ej l a))) [] []:=by
 refine qP Tryz.func166 λc hP hfn=>?_;simp only [A0,↓A3,seval]
 have nxt:∀ k,k≤l.length→Ej l a=Ej (l.drop k) a→∀ J:St→Prop,(∀ st',k<l.length→Ej l a=Ej (l.drop (k+1)) a→(Wk c st' ⟨[(0,.d (Br (l.drop (k+1)))),(1,.d (.int .i64 a))],[],[]⟩)→J st')→True:=λ_ _ _ _ _=>trivial
 clear nxt
 refine B4.scope (X:=Nat) (λk=>⟨[(0,.d (Br (l.drop k))),(1,.d (.int .i64 a))],[],[]⟩) (λk=>k≤l.length∧Ej l a=Ej (l.drop k) a) (λk=>l.length-k) ?_ ?_
 ·simp only [Br,A0,↓A3,seval]
  refine ⟨λh1=>?_,λh1=>?_⟩
  ·have:l=[]:=by simpa using h1
   subst this
   exact rr
  have hlt:0<l.length:=by simp at h1;exact List.length_pos_iff.2 h1
  obtain ⟨x,hd,hg,-,-⟩:=Ae hlt
  rw [List.drop_zero] at hd
  have hb:Ej l a=if x.1<a then Ej (l.drop 1) a else x.2:=by
   have:=congrArg (Ej · a) hd
   simpa [Ej] using this
  simp only [hg,A0,↓A3,seval]
  repeat' first|refine ⟨λh=>?_,λh=>?_⟩|(refine tA rfl rfl rfl rfl ?_;try simp only [A0,↓A3,seval])|refine aX ?_|fail
  ·refine ⟨1,⟨hlt,?_⟩,Wk.of [] hfn rfl (by simp only [A7,A0,↓A3,seval,Int.reduceToNat];exact X3 (l:=l) (k:=0) (by simp)) (by simp only [A7,A0,↓A3,seval])⟩
   rw [hb,if_pos (of_decide_eq_true h)]
  ·(refine rq ?_;first|exact ⟨⟩|(rw [hb,if_neg (of_decide_eq_false h)]))
 ·rintro k ⟨hk,he⟩
  simp only [Br,A0,↓A3,seval]
  refine ⟨λh1=>?_,λh1=>?_⟩
  ·have:l.drop k=[]:=List.eq_nil_of_length_eq_zero (by simpa using h1)
   rw [this] at he
   (refine rq ?_;first|exact ⟨⟩|(rw [he];rfl))
  have hlt:k<l.length:=by simp at h1;omega
  obtain ⟨x,hd,hg,-,-⟩:=Ae hlt
  have hg0:∀ d,(l.drop k).getD 0 d=x:=λd=>by rw [hd];rfl
  rw [hd,Ej] at he
  have hlen:(l.drop k).length=l.length-k:=List.length_drop
  simp only [hg0,A0,↓A3,seval]
  repeat' first|refine ⟨λh=>?_,λh=>?_⟩|(refine tA rfl rfl rfl rfl ?_;try simp only [A0,↓A3,seval])|refine aX ?_|fail
  ·rw [if_pos (of_decide_eq_true h)] at he
   refine ⟨k+1,⟨hlt,he⟩,Wk.of [] hfn rfl (by simp only [A7,A0,↓A3,seval,Int.reduceToNat];exact X3 (l:=l) (k:=k) (by simp;omega)) (by simp only [A7,A0,↓A3,seval]),by omega⟩
  ·rw [if_neg (of_decide_eq_false h)] at he
   (refine rq ?_;first|exact ⟨⟩|(rw [he]))
structure Vs where
 fr:Int
 b0:Int
 b1:Int
 b2:Int
 b3:Int
 age:List (Int×Int)
 zn:List Int
 pr:List Int
 mn:Int
instance:Inhabited Vs:=⟨⟨0,0,0,0,0,[],[],[],0⟩⟩
def cV (v:Vs):List V:=[.d (.int .i64 v.fr),.d (.int .i64 v.b0),.d (.int .i64 v.b1),.d (.int .i64 v.b2),.d (.int .i64 v.b3),.d (Br v.age),.d (slK .i64 v.zn),.d (slK .i64 v.pr),.d (.int .i64 v.mn)]
def vV (v:Vs):V:=.ag (cV v)
structure U5 (v:Vs):Prop where
 age:v.age.length≤9223372036854775807
 zn:v.zn.length≤9223372036854775807
 pr:v.pr.length≤9223372036854775807
def Qx (v:Vs):Bool:=decide (1≤v.fr∧v.fr≤292194∧0≤v.mn∧v.mn≤1000000000000000∧v.age.length≤100∧1≤v.zn.length∧v.zn.length≤100∧v.pr.length=8)
def Jy (v:Vs):Bool:=Qx v&&([v.b0,v.b1,v.b2,v.b3].all Rg&&v.zn.all Rg&&v.pr.all Rg&&Oz v.age)
theorem Ta {v:Vs}:Qx v=true↔1≤v.fr∧v.fr≤292194∧0≤v.mn∧v.mn≤1000000000000000∧v.age.length≤100∧1≤v.zn.length∧v.zn.length≤100∧v.pr.length=8:=by simp only [Qx,decide_eq_true_eq]
theorem dz {full:Bool} {l:List Int} {F:Nat→List D} (hl:l.length=4) (hF:∀ i,i<4→F i=[.int .i64 (l.getD i 0)]):Aj Tryz.prog 178 [.d (.sl full 1 4 F)] [] (.d (.bool (l.all Rg))) [] []:=
 (Pb l (by omega)).arg ⟨Ag.sl hl.symm (λ_=>rfl) (by simp) hF,trivial⟩
theorem ou (v:Vs) (hv:U5 v):Aj Tryz.prog 165 [vV v] [] (.d (.bool (Jy v))) [] []:=by
 have hh:=@Ta v
 have c1:=dz (full:=true) (l:=[v.b0,v.b1,v.b2,v.b3]) (F:=litRow 1 [.int .i64 v.b0,.int .i64 v.b1,.int .i64 v.b2,.int .i64 v.b3,Br v.age,slK .i64 v.zn,slK .i64 v.pr,.int .i64 v.mn]) rfl (by intro i hi;rcases i with _|_|_|_|i<;>first|rfl|omega)
 have cb:=zb v.age hv.age
 have h1:=hv.age
 have h2:=hv.zn
 have h3:=hv.pr
 simp only [Br,slK] at c1 cb
 refine qP Tryz.func165 λc hP hfn=>?_;simp only [vV,cV,Br,slK,A0,↓A3,seval]
 repeat' first|(refine tq hP (h:=⟨_,λ_=>by first|exact c1|exact Pb v.zn hv.zn|exact Pb v.pr hv.pr|exact cb,?_⟩);try simp only [A0,↓A3,seval])|refine ⟨λh=>?_,λh=>?_⟩|(refine tA rfl rfl rfl rfl ?_;try simp only [A0,↓A3,seval])|refine aX ?_|fail
 ·have hb:Qx v=false:=by rw [←Bool.not_eq_true,hh];simp only [Bool.or_eq_true,decide_eq_true_eq] at h;omega
  (refine rq ?_;first|exact ⟨⟩|(rw [Jy,hb];rfl))
 ·rename_i h0
  have hb:Qx v=false:=by rw [←Bool.not_eq_true,hh];simp only [Bool.or_eq_true,bne_iff_ne,ne_eq,decide_eq_true_eq] at h;omega
  (refine rq ?_;first|exact ⟨⟩|(rw [Jy,hb];rfl))
 ·rename_i h0
  have hb:Qx v=true:=by
   rw [hh]
   simp only [Bool.or_eq_false_iff,bne_eq_false_iff_eq,decide_eq_false_iff_not] at h0 h
   omega
  (refine rq ?_;first|exact ⟨⟩|(rw [Jy,hb];simp [Bool.and_assoc]))
def Z7:Int→List Int→Int×Int
 |m,[]=>(m,0)
 |m,f::r=>if (V1 m f).2=0 then Z7 (V1 m f).1 r else (0,(V1 m f).2)
theorem Th (a b:Int):0≤(V1 a b).1∧(V1 a b).1≤4000000000000000000:=by
 unfold V1 Tq
 generalize (if ig (a.toNat*b.toNat / (10000:Int).toNat) (a.toNat*b.toNat % (10000:Int).toNat) (10000:Int).toNat=true then 1 else 0)=u
 generalize a.toNat*b.toNat / (10000:Int).toNat=q
 (repeat' split)<;>first
  |(simp;done)
  |(constructor<;>simp only<;>omega)
def We (v:Vs) (k:Int):Int:=if k=0 then v.b0 else if k=1 then v.b1 else if k=2 then v.b2 else v.b3
def Gz (v:Vs) (r:Rk) (c:Cv):List Int:=[We v r.kd,Ej v.age r.ag,v.zn.getD r.zo.toNat 0,v.pr.getD c.pe.toNat 0,c.sh]
def Ro (v:Vs) (r:Rk) (c:Cv):Bool:=Jy v&&Ih r&&E2 c
def Fa (v:Vs) (r:Rk) (c:Cv):Int×Int:=
 if Ro v r c=false then (0,1) else if (v.zn.length:Int)≤r.zo then (0,7)
 else if (Z7 r.va (Gz v r c)).2=0 then (max (Z7 r.va (Gz v r c)).1 v.mn,0) else (0,(Z7 r.va (Gz v r c)).2)
theorem Wy {c:Cv} (h:E2 c=true):0≤c.pe∧c.pe<8∧1≤c.sh∧c.sh≤10000:=by
 simp only [E2,Bool.and_eq_true,decide_eq_true_eq] at h
 omega
theorem pc {l:List (Int×Int)} {last:Int} (h:Jp last l=true) (a:Int):0≤Ej l a∧Ej l a≤100000:=by
 induction l generalizing last with
 |nil=>simp [Ej]
 |cons b r ih =>
  simp only [Jp,Bool.and_eq_true,decide_eq_true_eq] at h
  simp only [Ej]
  split
  ·exact ih h.2
  ·omega
structure zk (v:Vs) (r:Rk) (c:Cv):Prop where
 head:Qx v=true
 kd:0≤r.kd∧r.kd<4
 va:1≤r.va∧r.va≤1000000000000000
 zo:0≤r.zo∧r.zo<100
 pe:0≤c.pe∧c.pe<8
 mn:0≤v.mn∧v.mn≤1000000000000000
 pr:v.pr.length=8
 all:∀ x,x∈Gz v r c→0≤x∧x≤100000
theorem Vz {l:List Int} (h:l.all Rg=true) (n:Nat):0≤l.getD n 0∧l.getD n 0≤100000:=by
 by_cases hn:n<l.length
 ·have:=List.all_eq_true.1 h (l.getD n 0) (by rw [List.getD_eq_getElem?_getD,List.getElem?_eq_getElem hn];exact List.getElem_mem hn)
  exact X7.1 this
 ·rw [List.getD_eq_getElem?_getD,List.getElem?_eq_none (by omega)];simp
theorem Z6 {v:Vs} {r:Rk} {c:Cv} (h:Ro v r c=true):zk v r c:=by
 simp only [Ro,Jy,Bool.and_eq_true,List.all_cons,List.all_nil,Bool.and_true] at h
 obtain ⟨⟨⟨h1,⟨⟨⟨g0,g1,g2,g3⟩,h3⟩,h4⟩,h5⟩,h6⟩,h7⟩:=h
 rw [X7] at g0 g1 g2 g3
 have k1:=Ta.1 h1
 have k6:=Pk.1 h6
 have k7:=Wy h7
 simp only [Oz,Bool.and_eq_true] at h5
 refine ⟨h1,by omega,by omega,by omega,by omega,by omega,by omega,λx hx=>?_⟩
 simp only [Gz,List.mem_cons,List.not_mem_nil,or_false] at hx
 rcases hx with rfl|rfl|rfl|rfl|rfl
 ·unfold We;split;· omega
  split;· omega
  split<;>omega
 ·exact pc h5.1 _
 ·exact Vz h3 _
 ·exact Vz h4 _
 ·omega
theorem ik {v:Vs} {k:Int} (h:0≤k∧k<4) (a b c d:V) (x:V):nth [x,.d (.int .i64 v.b0),.d (.int .i64 v.b1),.d (.int .i64 v.b2),.d (.int .i64 v.b3),a,b,c,d] (1+k.toNat)=.d (.int .i64 (We v k)):=by
 have:k=0∨k=1∨k=2∨k=3:=by omega
 rcases this with rfl|rfl|rfl|rfl<;>rfl
theorem lf {v:Vs} {r:Rk} {c:Cv} {k:Nat} (h:k<5):nth [.d (.int .i64 (We v r.kd)),.d (.int .i64 (Ej v.age r.ag)),.d (.int .i64 (v.zn.getD r.zo.toNat 0)),.d (.int .i64 (v.pr.getD c.pe.toNat 0)),.d (.int .i64 c.sh)] k=.d (.int .i64 ((Gz v r c).getD k 0)):=by
 have:k=0∨k=1∨k=2∨k=3∨k=4:=by omega
 rcases this with rfl|rfl|rfl|rfl|rfl<;>rfl
theorem lw {v:Vs} {r:Rk} {c:Cv} (h:Ro v r c=false):Fa v r c=(0,1):=by rw [Fa,if_pos h]
theorem gi {v:Vs} {r:Rk} {c:Cv} (h:Ro v r c=true) (h2:(v.zn.length:Int)≤r.zo):Fa v r c=(0,7):=by rw [Fa,if_neg (by rw [h];simp),if_pos h2]
theorem rv {v:Vs} {r:Rk} {c:Cv} (h:Ro v r c=true) (h2:¬ (v.zn.length:Int)≤r.zo) :
  Fa v r c=if (Z7 r.va (Gz v r c)).2=0 then (max (Z7 r.va (Gz v r c)).1 v.mn,0) else (0,(Z7 r.va (Gz v r c)).2):=by rw [Fa,if_neg (by rw [h];simp),if_neg h2]
theorem sOne (v:Vs) (r:Rk) (w:Cv) (hv:U5 v):Aj Tryz.prog 138 [vV v,vR r,vC w] [] (.tup [.d (.int .i64 (Fa v r w).1),.d (.int .i64 (Fa v r w).2)]) [] []:=by
 have c1:=ou v hv
 have c2:=mu r
 have c3:=Uc w
 have c4:=sBand v.age r.ag hv.age
 have hm2:Ro v r w=(Jy v&&Ih r&&E2 w):=rfl
 have hz2:=hv.zn
 have hp2:=hv.pr
 simp only [vV,cV,vR,cR,vC,cC,Br,slK] at c1 c2 c3 c4
 generalize Jy v=q1 at c1 hm2
 generalize Ih r=q2 at c2 hm2
 generalize E2 w=q3 at c3 hm2
 refine qP Tryz.func138 λc hP hfn=>?_;simp only [vV,cV,vR,cR,vC,cC,Br,slK,A0,↓A3,seval]
 refine B4.scope0 ?_
 simp only [A0,↓A3,seval]
 repeat' first|(refine tq hP (h:=⟨_,λ_=>by first|exact c1|exact c2|exact c3,?_⟩);try simp only [A0,↓A3,seval])|refine ⟨λh=>?_,λh=>?_⟩|refine aX ?_|fail
 ·have hm:Ro v r w=false:=by rw [hm2];cases q1<;>cases q2<;>cases q3<;>simp_all
  (refine rp (Ag.tups ?_);simp only [B8,A0,↓A3,seval])
  rw [lw hm];exact ⟨Ag.refl _,Ag.refl _,trivial⟩
 ·rename_i h0
  have hm:Ro v r w=true:=by rw [hm2];cases q1<;>cases q2<;>cases q3<;>simp_all
  (refine rp (Ag.tups ?_);simp only [B8,A0,↓A3,seval])
  rw [gi hm (of_decide_eq_true h)];exact ⟨Ag.refl _,Ag.refl _,trivial⟩
 rename_i h0
 have hm:Ro v r w=true:=by rw [hm2];cases q1<;>cases q2<;>cases q3<;>simp_all
 clear h0
 have hf:=Z6 hm
 obtain ⟨f1,f2,f3,f4,f5,f6,f7,f8⟩:=hf
 have hbn:=ik (v:=v) f2 (.d (Br v.age)) (.d (slK .i64 v.zn)) (.d (slK .i64 v.pr)) (.d (.int .i64 v.mn)) (.d (.int .i64 v.fr))
 simp only [Br,slK] at hbn
 have hz:¬ (v.zn.length:Int)≤r.zo:=of_decide_eq_false h
 have he:=rv hm hz
 have hpr:(v.pr.length:Int)=8:=by omega
 clear h
 simp only [hbn]
 repeat' first|(refine tz hP c4 ?_;try simp only [hbn,A0,↓A3,seval])|refine ⟨λh=>?_,λh=>?_⟩|refine aX ?_|fail
 refine B4.loop (X:=Nat×Int) (λx=>⟨[(3,.own 3 0),(8,.d (.int .i64 x.2)),(9,.d (.int .i64 0)),(59,.ag [.d (.int .i64 (We v r.kd)),.d (.int .i64 (Ej v.age r.ag)),.d (.int .i64 (v.zn.getD r.zo.toNat 0)),.d (.int .i64 (v.pr.getD w.pe.toNat 0)),.d (.int .i64 w.sh)]),(60,.d (.int .i64 x.1))],[(3,.fix (cV v))],[3]⟩)
  (λx=>x.1≤5∧0≤x.2∧x.2≤4000000000000000000∧Z7 r.va (Gz v r w)=Z7 x.2 ((Gz v r w).drop x.1)) (λx=>5-x.1) (0,r.va) ⟨by omega,by simp only;omega,by simp only;omega,rfl⟩ (Wk.of [] hfn rfl (by simp only [cV,Br,slK,A7,A0,↓A3,seval]) (by simp only [cV,Br,slK,A7,A0,↓A3,seval])) ?_
 rintro ⟨k,m⟩ ⟨hk,hm0,hm1,hgo⟩
 simp only at hk hm0 hm1 hgo
 simp only [cV,Br,slK,A0,↓A3,seval]
 refine ⟨λh1=>?_,λh1=>?_⟩
 ·have hlt:k<5:=by have:=of_decide_eq_true h1;omega
  have hn:=lf (v:=v) (r:=r) (c:=w) hlt
  obtain ⟨x,hd,hg,hmem,-⟩:=Ae (l:=Gz v r w) (show k<(Gz v r w).length from hlt)
  have hx:=f8 x hmem
  have c5:=sBp m x (by omega) (by omega)
  have hb:=Th m x
  rw [hd,Z7] at hgo
  simp only [hn,hg,A0,↓A3,seval]
  repeat' first|(refine tz hP c5 ?_;try simp only [A0,↓A3,seval])|refine ⟨λh=>?_,λh=>?_⟩|refine aX ?_|fail
  ·have h':¬ (V1 m x).2=0:=by simpa using h
   rw [if_neg h'] at hgo
   rw [hgo,if_neg h'] at he
   (refine rp (Ag.tups ?_);simp only [B8,A0,↓A3,seval])
   rw [he];exact ⟨Ag.refl _,Ag.refl _,trivial⟩
  ·rename_i g;rw [g] at h;cases h
  ·have h':(V1 m x).2=0:=by simpa using h
   rw [if_pos h'] at hgo
   rw [h']
   exact Al.on (k+1,(V1 m x).1) ⟨hlt,hb.1,hb.2,hgo⟩ (by simp only;omega) (Wk.of [] hfn rfl (by (simp only [cV,Br,slK,A7,A0,↓A3,seval])<;>(first|exact wS (by omega)|(rw [List.length_append];exact wS (by omega))|assumption)) (by simp only [cV,Br,slK,A7,A0,↓A3,seval]))
 ·have hk5:k=5:=by have:=of_decide_eq_false h1;omega
  rw [hk5,show (Gz v r w).drop 5=[] from rfl,Z7] at hgo
  rw [hgo,if_pos rfl] at he
  repeat' first|refine ⟨λh=>?_,λh=>?_⟩|refine aX ?_|fail
  all_goals try (exact absurd h (by decide))
  (refine rp (Ag.tups ?_);simp only [B8,A0,↓A3,seval])
  rw [he];exact ⟨Ag.refl _,Ag.refl _,trivial⟩
def Ar (l:List Cv):D:=.sl false 5 l.length (λi=>[.int .i64 (l.getD i default).pe,.int .i64 (l.getD i default).li,.int .i64 (l.getD i default).ag,.int .i64 (l.getD i default).de,.int .i64 (l.getD i default).sh])
def U2 (v:Vs) (r:Rk):List Cv→Int
 |[]=>0
 |c::l=>if (Fa v r c).2=0 then U2 v r l else (Fa v r c).2
def bd (v:Vs) (r:Rk) (l:List Cv):List Int:=l.map λc=>(Fa v r c).1
def P4 (v:Vs) (r:Rk) (l:List Cv):Int×Int:=
 if U2 v r l≠0 then (0,U2 v r l) else if 4000000000000000000<(bd v r l).sum then (0,5) else ((bd v r l).sum,0)
theorem ug {l:List Int}:∀ {m:Int},0≤m→m≤4000000000000000000→0≤(Z7 m l).1∧(Z7 m l).1≤4000000000000000000:=by
 induction l with
 |nil=>intro m h1 h2;exact ⟨h1,h2⟩
 |cons f r ih =>
  intro m h1 h2
  rw [Z7]
  split
  ·exact ih (Th m f).1 (Th m f).2
  ·simp
theorem Ve (v:Vs) (r:Rk) (c:Cv):0≤(Fa v r c).1∧(Fa v r c).1≤4000000000000000000:=by
 unfold Fa
 split
 ·simp
 ·rename_i h
  have hf:=Z6 (v:=v) (r:=r) (c:=c) (by simpa using h)
  have h1:=hf.va
  have h2:=hf.mn
  split
  ·simp
  ·split
   ·have:=ug (l:=Gz v r c) (m:=r.va) (by omega) (by omega)
    constructor<;>simp only<;>omega
   ·simp
theorem Nx:∀ {l:List Int},(∀ x,x∈l→0≤x)→0≤l.sum
 |[],_=>by simp
 |a::t,h=>by
  have h1:=h a (by simp)
  have h2:=Nx (l:=t) (λx hx=>h x (by simp [hx]))
  simp only [List.sum_cons];omega
theorem ry (v:Vs) (r:Rk) (l:List Cv):∀ x,x∈bd v r l→0≤x∧x≤4000000000000000000:=by
 intro x hx
 obtain ⟨c,-,rfl⟩:=List.mem_map.1 hx
 exact Ve v r c
theorem nv (v:Vs) (r:Rk) {l:List Cv} {k:Nat} {c:Cv} (h:l[k]?=some c):bd v r (l.take (k+1))=bd v r (l.take k)++[(Fa v r c).1]:=by
 rw [List.take_add_one,h];simp [bd]
theorem sAdder:Aj Tryz.prog 137 [] [] (.fn (.func 164) [] [.own 1 0]) [(1,.fix [.d (.int .i64 0)])] [1]:=by
 refine qO Tryz.func137 ?_
 intro c hP hfn
 simp only [A5,V.names,A4,A0,↓A3,seval]
 repeat' first|refine ⟨λh=>?_,λh=>?_⟩|refine aX ?_|fail
 exact rK (Wk.refl _ _) (by simp only [A7,A0,↓A3,seval])
def P2 (s m:Int):Int×Bool:=if 4000000000000000000-s<m then (0,false) else (s+m,true)
theorem sAdd (s m:Int) (h1:0≤s) (h2:s≤4000000000000000000) (h3:0≤m) (h4:m≤4000000000000000000) :
  Aj Tryz.prog 164 [.d (.int .i64 m),.own 1 0] [(1,.fix [.d (.int .i64 s)])] (.tup [.d (.int .i64 (P2 s m).1),.d (.bool (P2 s m).2)]) [(1,.fix [.d (.int .i64 (if (P2 s m).2=true then s+m else s))])] []:=by
 refine qO Tryz.func164 ?_
 intro c hP hfn
 have e1:IntKind.i64.wrap (4000000000000000000-s)=4000000000000000000-s:=wI (by omega)
 simp only [A5,V.names,A4,e1,A0,↓A3,seval]
 repeat' first|refine ⟨λh=>?_,λh=>?_⟩|refine aX ?_|fail
 ·have e:P2 s m=(0,false):=by rw [P2,if_pos (by have:=of_decide_eq_true h;omega)]
  rw [e]
  exact Ci.mk _ (Wk.refl _ _) (by simp only [B8,A0,↓A3,seval]) (Ag.tups (by simp only [B8,A7,A0,↓A3,seval])) (by simp only [A7,A0,↓A3,seval])
 ·have e:P2 s m=(s+m,true):=by rw [P2,if_neg (by have:=of_decide_eq_false h;omega)]
  have e2:IntKind.i64.wrap (s+m)=s+m:=by have:=of_decide_eq_false h;exact wI (by omega)
  rw [e]
  simp only [e2]
  exact Ci.mk _ (Wk.refl _ _) (by simp only [B8,A0,↓A3,seval]) (Ag.tups (by simp only [B8,A7,A0,↓A3,seval])) (by simp only [A7,A0,↓A3,seval])
structure YrI (v:Vs) (r:Rk) (l:List Cv) (k:Nat) (acc s:Int) (b:Bool):Prop where
 le:k≤l.length
 er:U2 v r l=U2 v r (l.drop k)
 fit:b=true→acc=(bd v r (l.take k)).sum∧s=acc∧acc≤4000000000000000000
 not:b=false→4000000000000000000<(bd v r (l.take k)).sum
theorem sYear (v:Vs) (r:Rk) (l:List Cv) (hv:U5 v) (hl:l.length≤9223372036854775807):Aj Tryz.prog 110 [vV v,vR r,.d (Ar l)] [] (.tup [.d (.int .i64 (P4 v r l).1),.d (.int .i64 (P4 v r l).2)]) [] []:=by
 have hy:P4 v r l=if U2 v r l≠0 then (0,U2 v r l) else if 4000000000000000000<(bd v r l).sum then (0,5) else ((bd v r l).sum,0):=rfl
 refine qP Tryz.func110 λc hP hfn=>?_;simp only [vV,cV,vR,cR,Ar,Br,slK,A0,↓A3,seval]
 refine TR.call [] [(1,.fix [.d (.int .i64 0)])] _ [1] (by rw [hP];exact sAdder) trivial (by simp) (by simp [keysO]) (by simp) ?_
 simp only [A0,↓A3,seval]
 refine B4.loop (X:=Nat×Int×Int×Bool) (λx=>⟨[(3,.own 3 0),(4,.own 4 0),(8,.fn (.func 164) [] [.own 1 0]),(9,.d (.int .i64 x.2.2.1)),(10,.d (.bool x.2.2.2)),(16,.d (Ar l)),(17,.d (.int .i64 l.length)),(18,.d (.int .i64 x.1))],
   [(1,.fix [.d (.int .i64 x.2.1)]),(3,.fix (cV v)),(4,.fix (cR r))],[1,3,4]⟩)
  (λx=>YrI v r l x.1 x.2.1 x.2.2.1 x.2.2.2) (λx=>l.length-x.1) (0,0,0,true) ⟨Nat.zero_le _,rfl,λ_=>(by simp [bd]),λh=>(by cases h)⟩
  (Wk.of [] hfn rfl (by simp only [Ar,A7,A0,↓A3,seval]) (by simp only [cV,cR,Br,slK,A7,A0,↓A3,seval])) ?_
 rintro ⟨k,acc,s,b⟩ ⟨hk,he,hft,hfn2⟩
 simp only at hk he hft hfn2
 simp only [cV,cR,Br,slK,Ar,A0,↓A3,seval]
 refine ⟨λh1=>?_,λh1=>?_⟩
 ·have hlt:k<l.length:=by have:=of_decide_eq_true h1;omega
  obtain ⟨x,hd,hg,hmem,hat⟩:=Ae hlt
  have c1:=sOne v r x hv
  simp only [vV,cV,vR,cR,vC,cC,Br,slK] at c1
  rw [hd,U2] at he
  have hsn:=nv v r hat
  have hpos:=Ve v r x
  simp only [hg,A0,↓A3,seval]
  repeat' first|(refine tz hP c1 ?_;try simp only [A0,↓A3,seval])|refine ⟨λh=>?_,λh=>?_⟩|refine aX ?_|fail
  ·have h':¬ (Fa v r x).2=0:=by simpa using h
   rw [if_neg h'] at he
   rw [if_pos (by rw [he];exact h'),he] at hy
   (refine rp (Ag.tups ?_);simp only [B8,A0,↓A3,seval])
   rw [hy];exact ⟨Ag.refl _,Ag.refl _,trivial⟩
  ·rename_i h2
   have h':(Fa v r x).2=0:=by simpa using h2
   rw [if_pos h'] at he
   obtain ⟨g1,g2,g3⟩:=hft h
   have g0:0≤acc:=by rw [g1];exact Nx (λy hy=>(ry v r _ y hy).1)
   have c2:=sAdd acc (Fa v r x).1 g0 g3 hpos.1 hpos.2
   refine TR.cv1 hP rfl c2 trivial (by repeat' first|exact trivial|(intro _;assumption)|apply And.intro) rfl ?_
   simp only [A0,↓A3,seval]
   have hs:(bd v r (l.take (k+1))).sum=acc+(Fa v r x).1:=by rw [hsn,List.sum_append,g1];simp
   by_cases hov:4000000000000000000-acc<(Fa v r x).1
   ·have e:P2 acc (Fa v r x).1=(0,false):=by rw [P2,if_pos hov]
    rw [e]
    exact Al.on (k+1,acc,0,false) ⟨hlt,he,λh=>(by cases h),λ_=>by simp only;omega⟩ (by simp only;omega) (Wk.of [] hfn rfl (by (simp only [Ar,cV,cR,Br,slK,A7,A0,↓A3,seval])<;>(first|exact wS (by omega)|(rw [List.length_append];exact wS (by omega))|assumption)) (by simp only [cV,cR,Br,slK,A7,A0,↓A3,seval]))
   ·have e:P2 acc (Fa v r x).1=(acc+(Fa v r x).1,true):=by rw [P2,if_neg hov]
    rw [e]
    exact Al.on (k+1,acc+(Fa v r x).1,acc+(Fa v r x).1,true) ⟨hlt,he,λ_=>⟨by simp only;omega,rfl,by simp only;omega⟩,λh=>by cases h⟩ (by simp only;omega) (Wk.of [] hfn rfl (by (simp only [Ar,cV,cR,Br,slK,A7,A0,↓A3,seval])<;>(first|exact wS (by omega)|(rw [List.length_append];exact wS (by omega))|assumption)) (by simp only [cV,cR,Br,slK,A7,A0,↓A3,seval]))
  ·rename_i h2
   have h':(Fa v r x).2=0:=by simpa using h2
   rw [if_pos h'] at he
   have hs:=hfn2 h
   have h3:(bd v r (l.take (k+1))).sum=(bd v r (l.take k)).sum+(Fa v r x).1:=by rw [hsn,List.sum_append];simp
   exact Al.on (k+1,acc,s,b) ⟨hlt,he,λg=>(by rw [h] at g;cases g),λ_=>by simp only;omega⟩ (by simp only;omega) (Wk.of [] hfn rfl (by (simp only [Ar,cV,cR,Br,slK,A7,A0,↓A3,seval])<;>(first|exact wS (by omega)|(rw [List.length_append];exact wS (by omega))|assumption)) (by simp only [cV,cR,Br,slK,A7,A0,↓A3,seval]))
 ·have hkl:k=l.length:=by have:=of_decide_eq_false h1;omega
  rw [hkl,List.drop_length,U2] at he
  rw [hkl,List.take_length] at hft hfn2
  rw [he,if_neg (by simp)] at hy
  repeat' first|refine ⟨λh=>?_,λh=>?_⟩|refine aX ?_|fail
  ·have hb:b=false:=by simpa using h
   rw [if_pos (hfn2 hb)] at hy
   (refine rp (Ag.tups ?_);simp only [B8,A0,↓A3,seval])
   rw [hy];exact ⟨Ag.refl _,Ag.refl _,trivial⟩
  ·have hb:b=true:=by simpa using h
   obtain ⟨g1,g2,g3⟩:=hft hb
   rw [if_neg (by omega),←g1] at hy
   (refine rp (Ag.tups ?_);simp only [B8,A0,↓A3,seval])
   rw [hy,g2];exact ⟨Ag.refl _,Ag.refl _,trivial⟩
structure Bl where
 du:Int
 am:Int
 pa:Int
deriving DecidableEq
instance:Inhabited Bl:=⟨⟨0,0,0⟩⟩
def cB (b:Bl):List D:=[.int .i64 b.du,.int .i64 b.am,.int .i64 b.pa]
theorem mq:Aj Tryz.prog 229 [.d (.int .i64 0)] [] (.tup []) [] []:=by
 refine qP Tryz.func229 λc hP hfn=>?_;simp only [A0,↓A3,seval]
 repeat' first|refine ⟨λh=>?_,λh=>?_⟩|refine aX ?_|fail
 all_goals exact rr
theorem Q5 (e:Int) (h:e≠0):Kv Tryz.prog 229 [.d (.int .i64 e)] (ku e):=by
 have h1:(e != 0)=true:=by rw [bne_iff_ne];exact h
 refine qN Tryz.func229 λc hP hfn hpk=>?_;simp only [h1,A0,↓A3,seval]
 repeat' first|refine ⟨λh=>?_,λh=>?_⟩|refine aX ?_|fail
 refine TR.pnc rfl trivial ?_
 rw [hpk];exact Ag.refl _
theorem sIn (f t d:Int):Aj Tryz.prog 83 [vS f t,.d (.int .i64 d)] [] (.d (.bool (decide (d≥(F3 f t).1)&&decide (d<(F3 f t).2)))) [] []:=by
 have ck:=wu f t
 simp only [vS] at ck
 refine qP Tryz.func83 λc hP hfn=>?_;simp only [vS,A0,↓A3,seval]
 repeat' first|(refine tz hP ck ?_;try simp only [A0,↓A3,seval])|refine ⟨λh=>?_,λh=>?_⟩|refine aX ?_|fail
 exact rr
theorem sDay (n:Int):Aj Tryz.prog 151 [.d (.int .i64 n)] [] (.d (.bool (decide (n≥1)&&decide (n≤292194)))) [] []:=by
 refine qP Tryz.func151 λc hP hfn=>?_;simp only [A0,↓A3,seval]
 exact rr
def ed:Int→List Cv→Bool
 |_,[]=>true
 |last,c::r=>!(decide (c.pe≤last) || !(E2 c))&&ed c.pe r
def Hd (l:List Cv):Bool:=ed (-1) l&&(decide (1≤l.length)&&decide (l.length≤8))
theorem bo (l:List Cv) (hl:l.length≤9223372036854775807):Aj Tryz.prog 149 [.d (Ar l)] [] (.d (.bool (Hd l))) [] []:=by
 refine qP Tryz.func149 λc hP hfn=>?_;simp only [Ar,A0,↓A3,seval]
 refine B4.loop (X:=Nat×Int) (λx=>⟨[(0,.d (Ar l)),(3,.d (.int .i64 x.2)),(6,.d (Ar l)),(7,.d (.int .i64 l.length)),(8,.d (.int .i64 x.1))],[],[]⟩)
  (λx=>x.1≤l.length∧ed (-1) l=ed x.2 (l.drop x.1)) (λx=>l.length-x.1) (0,-1) ⟨Nat.zero_le _,rfl⟩ (Wk.of _ hfn rfl (by simp only [Ar,A7,A0,↓A3,seval]) (by simp only [A7,A0,↓A3,seval])) ?_
 rintro ⟨k,last⟩ ⟨hk,he⟩
 simp only at hk he
 by_cases hlt:k<l.length
 ·obtain ⟨c',hd,hg,-,-⟩:=Ae hlt
  have d0:decide ((k:Int)<(l.length:Int))=true:=decide_eq_true (by omega)
  have ewk:IntKind.i64.wrap ((k:Int)+1)=((k+1:Nat):Int):=wS (by omega)
  have cc:=Uc c'
  simp only [vC,cC] at cc
  rw [hd,ed] at he
  simp only [Ar,hg,d0,ewk,A0,↓A3,seval]
  repeat' first|(refine tz hP cc ?_;try simp only [hg,ewk,A0,↓A3,seval])|refine ⟨λh=>?_,λh=>?_⟩|refine aX ?_|fail
  ·have e:Hd l=false:=by rw [Hd,he,h];rfl
   (refine rq ?_;first|exact ⟨⟩|rw [e])
  ·rw [h] at he
   exact Al.on (k+1,c'.pe) ⟨hlt,by simpa using he⟩ (by simp only;omega) (Wk.of _ hfn rfl (by simp only [Ar,A7,A0,↓A3,seval]) (by simp only [A7,A0,↓A3,seval]))
 ·have hkl:k=l.length:=by omega
  have d0:decide ((k:Int)<(l.length:Int))=false:=decide_eq_false (by omega)
  rw [hkl,List.drop_length,ed] at he
  have e:Hd l=(decide ((l.length:Int)≥1)&&decide ((l.length:Int)≤8)):=by
   rw [Hd,he,Bool.true_and]
   congr 1
   ·exact decide_eq_decide.2 (by omega)
   ·exact decide_eq_decide.2 (by omega)
  simp only [Ar,d0,A0,↓A3,seval]
  repeat' first|refine ⟨λh=>?_,λh=>?_⟩|refine aX ?_|fail
  (refine rq ?_;first|exact ⟨⟩|rw [e])
structure Tm where
 sf:Int
 st:Int
 rk:Rk
 cv:List Cv
instance:Inhabited Tm:=⟨⟨0,0,default,[]⟩⟩
structure Ch where
 bk:Int
 dy:Int
 kd:Int
 rk:Rk
 cv:List Cv
 wy:Int
instance:Inhabited Ch:=⟨⟨0,0,0,default,[],0⟩⟩
structure Hi where
 id:Int
 bk:Int
 tm:Tm
 ch:List Ch
def uf (t:Tm):List V:=[.d (.int .i64 t.sf),.d (.int .i64 t.st),.d (.int .i64 t.rk.kd),.d (.int .i64 t.rk.va),.d (.int .i64 t.rk.ag),.d (.int .i64 t.rk.zo),.d (Ar t.cv)]
def ie (t:Tm):V:=.ag (uf t)
def Js (c:Ch):List V:=[.d (.int .i64 c.bk),.d (.int .i64 c.dy),.d (.int .i64 c.kd),.d (.int .i64 c.rk.kd),.d (.int .i64 c.rk.va),.d (.int .i64 c.rk.ag),.d (.int .i64 c.rk.zo),.d (Ar c.cv),.d (.int .i64 c.wy)]
def Ia (c:Ch):V:=.ag (Js c)
def Bn (c:Ch):List D:=[.int .i64 c.bk,.int .i64 c.dy,.int .i64 c.kd,.int .i64 c.rk.kd,.int .i64 c.rk.va,.int .i64 c.rk.ag,.int .i64 c.rk.zo,Ar c.cv,.int .i64 c.wy]
def Bv (l:List Ch):D:=.sl false 9 l.length (λi=>Bn (l.getD i default))
def Dd (h:Hi):List V:=[.d (.int .i64 h.id),.d (.int .i64 h.bk),.d (.int .i64 h.tm.sf),.d (.int .i64 h.tm.st),.d (.int .i64 h.tm.rk.kd),.d (.int .i64 h.tm.rk.va),.d (.int .i64 h.tm.rk.ag),.d (.int .i64 h.tm.rk.zo),.d (Ar h.tm.cv),.d (Bv h.ch)]
def Da (h:Hi):V:=.ag (Dd h)
def Jz (n:Int):Bool:=decide (n≥1)&&decide (n≤292194)
def noRk (r:Rk):Bool:=(r.kd == 0)&&((r.va == 0)&&((r.ag == 0)&&(r.zo == 0)))
def ck1 (c:Ch):Bool:=Ih c.rk&&((c.cv.length:Int) == 0)&&(c.wy == 0)
def ck2 (c:Ch):Bool:=Hd c.cv&&noRk c.rk&&(c.wy == 0)
def ck3 (c:Ch):Bool:=((c.wy == 0) || (c.wy == 1))&&((c.cv.length:Int) == 0)&&noRk c.rk
def ck4 (c:Ch):Bool:=(c.wy == 0)&&((c.cv.length:Int) == 0)&&noRk c.rk
theorem sCk1 (c:Ch):Aj Tryz.prog 169 [Ia c] [] (.d (.bool (ck1 c))) [] []:=by
 have cr:=mu c.rk
 simp only [vR,cR] at cr
 refine qP Tryz.func169 λc hP hfn=>?_;simp only [Ia,Js,Ar,A0,↓A3,seval]
 repeat' first|(refine tz hP cr ?_;try simp only [A0,↓A3,seval])|refine ⟨λh=>?_,λh=>?_⟩|refine aX ?_|fail
 exact rr
theorem sCk2 (c:Ch) (hl:c.cv.length≤9223372036854775807):Aj Tryz.prog 170 [Ia c] [] (.d (.bool (ck2 c))) [] []:=by
 have cr:=bo c.cv hl
 simp only [Ar] at cr
 refine qP Tryz.func170 λc hP hfn=>?_;simp only [Ia,Js,Ar,A0,↓A3,seval]
 repeat' first|(refine tz hP cr ?_;try simp only [A0,↓A3,seval])|refine ⟨λh=>?_,λh=>?_⟩|refine aX ?_|fail
 exact rr
theorem sCk3 (c:Ch):Aj Tryz.prog 171 [Ia c] [] (.d (.bool (ck3 c))) [] []:=by
 refine qP Tryz.func171 λc hP hfn=>?_;simp only [Ia,Js,Ar,A0,↓A3,seval]
 repeat' first|refine ⟨λh=>?_,λh=>?_⟩|refine aX ?_|fail
 exact rr
theorem sCk4 (c:Ch):Aj Tryz.prog 172 [Ia c] [] (.d (.bool (ck4 c))) [] []:=by
 refine qP Tryz.func172 λc hP hfn=>?_;simp only [Ia,Js,Ar,A0,↓A3,seval]
 repeat' first|refine ⟨λh=>?_,λh=>?_⟩|refine aX ?_|fail
 exact rr
theorem Cp {c:B3} {r:my} {g:FuncId} {ks:List Nat} {rs:List RV} {res:V} {st:St}:ms c r g ks rs res .nrm st=El c false r.is st [] (λ_ st1=>sv c r g ks rs res st1):=propext ⟨λh=>h,λh=>h⟩
def E3 (n:Int) (b:Bool) (m:Nat) (cs:List V):List (Nat×Own):=[(3,.fix [.d (.int .i64 n)]),(1,.fix [.osl 7]),(2,.fix [.d (.bool b)]),(7,.lit 35 1 m cs)]
theorem dAll (n:Int) (b:Bool) (m:Nat) (cs:List V):fu Tryz.prog 168 [3,1,2] none (E3 n b m cs) (E3 n (n == m) m cs):=by
 refine ⟨ok168,by simp [keysO,E3],by simp [keysO,E3],λE0 β w vals pv hE hsz hv hins _=>?_⟩
 obtain ⟨v0,v1,v2,rfl⟩:∃ v0 v1 v2,vals=#[v0,v1,v2]:=by
  match vals,hsz with
  |⟨[a,b,c]⟩,_=>exact ⟨a,b,c,rfl⟩
 have ptr:∀ (v:Value) (k:Nat) (E:Nat→Prop),Ai β E w v (.own k 0)→∃ b,v=.pointer (some ⟨b,0,none⟩)∧β k=some (.pointer (some ⟨b,0,none⟩)):=λv k E h=>by
  cases h with
  |own k off b h=>exact ⟨b,rfl,h⟩
 obtain ⟨b0,rfl,hb0⟩:=ptr _ _ _ (hv 0 v0 3 rfl rfl)
 obtain ⟨b1,rfl,hb1⟩:=ptr _ _ _ (hv 1 v1 1 rfl rfl)
 obtain ⟨b2,rfl,hb2⟩:=ptr _ _ _ (hv 2 v2 2 rfl rfl)
 obtain ⟨u0,e0,g1,g2,g3,g4⟩:=Pf (k:=3) (x:=.d (.int .i64 n)) hins (by simp [E3]) hb0
 obtain ⟨u1,e1,q1,q2,q3,q4⟩:=Pf (k:=1) (x:=.osl 7) hins (by simp [E3]) hb1
 obtain ⟨u2,e2,r1,r2,r3,r4⟩:=Pf (k:=2) (x:=.d (.bool b)) hins (by simp [E3]) hb2
 obtain rfl:u0=.int .i64 n:=by cases g4 with|d _ _ h=>cases h;rfl
 obtain ⟨A,cp,rfl⟩:∃ A cp,u1=.slice A m cp:=by
  obtain ⟨v,xs,h1,⟨-,h2⟩,-⟩:=hins.ok 7 (.lit 35 1 m cs) (by simp [E3])
  cases q4 with
  |osl k v' h _ =>
   rw [h1] at h;cases h
   rcases h2 with ⟨⟨a,rfl⟩,rfl⟩|⟨g,cap,cur,rfl,-⟩
   ·exact ⟨a,0,rfl⟩
   ·exact ⟨_,cap,rfl⟩
 refine (callsDIn_of_wpSIn (R:=λe u' w'=>e=.returned (.tuple #[])∧u'=.returning∧w'=w.setCell ⟨b2,0,none⟩ (.bool (n == m))) Tryz.func168 rfl trivial λc₀ cs hu=>?_).mono ?_
 ·simp only [Mp] at hu
  apply wpSIn_region
  simp [wpOpsSIn,go_sem,hu,Tryz.ntmps168,g2,g3,q2,q3,r2,r3,bodyPostS,results,Tryz.results168]
  cases c₀
  simp_all
 ·rintro e' u' w' ⟨rfl,rfl,rfl⟩
  refine ⟨_,rfl,rfl,?_,S3 ⟨2,by simp [keysO,E3],by simp [A6.blk,hb2,B0]⟩⟩
  have:=bl (k:=2) (x:=.d (.bool b)) hins (by simp [E3]) hb2 (v:=.bool (n == m)) (y:=.d (.bool (n == m))) (.d _ _ (.bool _))
  simpa [setO,E3] using this
def H7 (g:Nat) (cs:List D):V:=.fn (.func g) [] [.mem cs]
theorem Qy {c2:B3} (hP:c2.P=Tryz.prog) {n:Int} {fns:List V} {b:Bool} (hb:b=(n == 4)) {st:St} (h:Wk c2 st ⟨[(2,.own 2 0)],E3 n false 4 fns,[3,2,1,7]⟩):RetD c2 168 [3,1,2] bg (.d (.bool b)) .ret st:=by
 refine ⟨_,E3 n false 4 fns,E3 n (n == ((4:Nat):Int)) 4 fns,h,by rw [hP];exact dAll n false 4 fns,λk o hm=>Ay (by simp [keysO,E3]) hm,?_,?_⟩
 ·first|(simp only [bg,E3,B8,A0,↓A3,seval];done)|trivial
 ·simp only [bg,E3,B8,A7,A0,↓A3,seval]
  rw [hb];first|done|exact Ag.refl _
theorem sAll (cs:List D) (b0 b1 b2 b3:Bool) (h0:Aj Tryz.prog 144 [.mem cs] [] (.d (.bool b0)) [] []) (h1:Aj Tryz.prog 145 [.mem cs] [] (.d (.bool b1)) [] []) (h2:Aj Tryz.prog 146 [.mem cs] [] (.d (.bool b2)) [] [])
  (h3:Aj Tryz.prog 148 [.mem cs] [] (.d (.bool b3)) [] []):Aj Tryz.prog 143 [.osl 7] [(7,.lit 35 1 4 [H7 144 cs,H7 145 cs,H7 146 cs,H7 148 cs])] (.d (.bool (b0&&b1&&b2&&b3))) [] []:=by
 refine Px 168 [3,1,2] Tryz.func143 ok143 rfl cd143 cr143 Tryz.ntmps143 (by simp) rfl ?_
 intro c hP hfn
 simp only [xg,H7,A5,V.names,A4,A0,↓A3,seval]
 rw [Cp]
 simp only [A0,↓A3,seval]
 refine ⟨⟨_,_,rfl,trivial,trivial,rfl⟩,by simp [keysO],λc2 hP2 hfn2 hrd2 hpk2=>?_⟩
 refine Jn.of ?_
 simp only [A0,↓A3,seval]
 refine B4.loop (X:=Nat) (λk=>⟨[(2,.own 2 0),(3,.own 3 0),(7,.osl 7),(8,.d (.int .i64 4)),(9,.d (.int .i64 k))],E3 k false 4 [H7 144 cs,H7 145 cs,H7 146 cs,H7 148 cs],[3,2,1,7]⟩)
  (λk=>k≤4∧∀ j,j<k→[b0,b1,b2,b3].getD j false=true) (λk=>4-k) 0 ⟨Nat.zero_le _,λj hj=>absurd hj (Nat.not_lt_zero j)⟩ (Wk.of _ hfn2 rfl (by simp only [A7,A0,↓A3,seval]) (by simp only [E3,H7,A7,A0,↓A3,seval])) ?_
 rintro k ⟨hk,he⟩
 have hk4:k=0∨k=1∨k=2∨k=3∨k=4:=by omega
 have hP:=hP2.trans hP
 have w1:IntKind.i64.wrap 1=1:=wI (by omega)
 have w2:IntKind.i64.wrap 2=2:=wI (by omega)
 have w3:IntKind.i64.wrap 3=3:=wI (by omega)
 have w4:IntKind.i64.wrap 4=4:=wI (by omega)
 have n1:((1:Nat):Int)=1:=rfl
 have n2:((2:Nat):Int)=2:=rfl
 have n3:((3:Nat):Int)=3:=rfl
 have n4:((4:Nat):Int)=4:=rfl
 have n0:((0:Nat):Int)=0:=rfl
 have s1:(0:Int)+1=1:=rfl
 have s2:(1:Int)+1=2:=rfl
 have s3:(2:Int)+1=3:=rfl
 have s4:(3:Int)+1=4:=rfl
 rcases hk4 with rfl|rfl|rfl|rfl|rfl
 ·simp only [E3,H7,n0,n1,n2,n3,n4,A0,↓A3,seval]
  repeat' first|(refine tz hP h0 ?_;try simp only [n0,n1,n2,n3,n4,s1,s2,s3,s4,w1,w2,w3,w4,A0,↓A3,seval])|refine ⟨λh=>?_,λh=>?_⟩|refine aX ?_|fail
  ·
   have hb:b0=false:=by simpa using h
   exact Qy (n:=0) (fns:=[H7 144 cs,H7 145 cs,H7 146 cs,H7 148 cs]) hP (by rw [ hb];simp) (Wk.of _ hfn2 rfl (by simp only [A7,A0,↓A3,seval]) (by simp only [E3,H7,A7,A0,↓A3,seval]))
  ·have hb:b0=true:=by simpa using h
   exact Al.on 1 ⟨by decide,λj hj=>by
    rcases Nat.lt_or_eq_of_le (Nat.le_of_lt_succ hj) with h8|h8
    ·exact he j h8
    ·subst h8;exact hb⟩ (by decide) (Wk.of _ hfn2 rfl (by simp only [n0,n1,n2,n3,n4,s1,s2,s3,s4,w1,w2,w3,w4,A7,A0,↓A3,seval]) (by simp only [E3,H7,n0,n1,n2,n3,n4,s1,s2,s3,s4,w1,w2,w3,w4,A7,A0,↓A3,seval]))
 ·simp only [E3,H7,n0,n1,n2,n3,n4,A0,↓A3,seval]
  repeat' first|(refine tz hP h1 ?_;try simp only [n0,n1,n2,n3,n4,s1,s2,s3,s4,w1,w2,w3,w4,A0,↓A3,seval])|refine ⟨λh=>?_,λh=>?_⟩|refine aX ?_|fail
  ·have e0:b0=true:=he 0 (by decide)
   have hb:b1=false:=by simpa using h
   exact Qy (n:=1) (fns:=[H7 144 cs,H7 145 cs,H7 146 cs,H7 148 cs]) hP (by rw [e0,hb];simp) (Wk.of _ hfn2 rfl (by simp only [A7,A0,↓A3,seval]) (by simp only [E3,H7,A7,A0,↓A3,seval]))
  ·have hb:b1=true:=by simpa using h
   exact Al.on 2 ⟨by decide,λj hj=>by
    rcases Nat.lt_or_eq_of_le (Nat.le_of_lt_succ hj) with h8|h8
    ·exact he j h8
    ·subst h8;exact hb⟩ (by decide) (Wk.of _ hfn2 rfl (by simp only [n0,n1,n2,n3,n4,s1,s2,s3,s4,w1,w2,w3,w4,A7,A0,↓A3,seval]) (by simp only [E3,H7,n0,n1,n2,n3,n4,s1,s2,s3,s4,w1,w2,w3,w4,A7,A0,↓A3,seval]))
 ·simp only [E3,H7,n0,n1,n2,n3,n4,A0,↓A3,seval]
  repeat' first|(refine tz hP h2 ?_;try simp only [n0,n1,n2,n3,n4,s1,s2,s3,s4,w1,w2,w3,w4,A0,↓A3,seval])|refine ⟨λh=>?_,λh=>?_⟩|refine aX ?_|fail
  ·have e0:b0=true:=he 0 (by decide)
   have e1:b1=true:=he 1 (by decide)
   have hb:b2=false:=by simpa using h
   exact Qy (n:=2) (fns:=[H7 144 cs,H7 145 cs,H7 146 cs,H7 148 cs]) hP (by rw [e0,e1,hb];simp) (Wk.of _ hfn2 rfl (by simp only [A7,A0,↓A3,seval]) (by simp only [E3,H7,A7,A0,↓A3,seval]))
  ·have hb:b2=true:=by simpa using h
   exact Al.on 3 ⟨by decide,λj hj=>by
    rcases Nat.lt_or_eq_of_le (Nat.le_of_lt_succ hj) with h8|h8
    ·exact he j h8
    ·subst h8;exact hb⟩ (by decide) (Wk.of _ hfn2 rfl (by simp only [n0,n1,n2,n3,n4,s1,s2,s3,s4,w1,w2,w3,w4,A7,A0,↓A3,seval]) (by simp only [E3,H7,n0,n1,n2,n3,n4,s1,s2,s3,s4,w1,w2,w3,w4,A7,A0,↓A3,seval]))
 ·simp only [E3,H7,n0,n1,n2,n3,n4,A0,↓A3,seval]
  repeat' first|(refine tz hP h3 ?_;try simp only [n0,n1,n2,n3,n4,s1,s2,s3,s4,w1,w2,w3,w4,A0,↓A3,seval])|refine ⟨λh=>?_,λh=>?_⟩|refine aX ?_|fail
  ·have e0:b0=true:=he 0 (by decide)
   have e1:b1=true:=he 1 (by decide)
   have e2:b2=true:=he 2 (by decide)
   have hb:b3=false:=by simpa using h
   exact Qy (n:=3) (fns:=[H7 144 cs,H7 145 cs,H7 146 cs,H7 148 cs]) hP (by rw [e0,e1,e2,hb];simp) (Wk.of _ hfn2 rfl (by simp only [A7,A0,↓A3,seval]) (by simp only [E3,H7,A7,A0,↓A3,seval]))
  ·have hb:b3=true:=by simpa using h
   exact Al.on 4 ⟨by decide,λj hj=>by
    rcases Nat.lt_or_eq_of_le (Nat.le_of_lt_succ hj) with h8|h8
    ·exact he j h8
    ·subst h8;exact hb⟩ (by decide) (Wk.of _ hfn2 rfl (by simp only [n0,n1,n2,n3,n4,s1,s2,s3,s4,w1,w2,w3,w4,A7,A0,↓A3,seval]) (by simp only [E3,H7,n0,n1,n2,n3,n4,s1,s2,s3,s4,w1,w2,w3,w4,A7,A0,↓A3,seval]))
 ·simp only [E3,H7,n0,n1,n2,n3,n4,A0,↓A3,seval]
  repeat' first|refine ⟨λh=>?_,λh=>?_⟩|refine aX ?_|fail
  have e0:b0=true:=he 0 (by decide)
  have e1:b1=true:=he 1 (by decide)
  have e2:b2=true:=he 2 (by decide)
  have e3:b3=true:=he 3 (by decide)
  exact Qy (n:=4) (fns:=[H7 144 cs,H7 145 cs,H7 146 cs,H7 148 cs]) hP (by rw [e0,e1,e2,e3];simp) (Wk.of _ hfn2 rfl (by simp only [A7,A0,↓A3,seval]) (by simp only [E3,H7,n4,A7,A0,↓A3,seval]))
def au (t:Tm):List D:=[.int .i64 t.sf,.int .i64 t.st,.int .i64 t.rk.kd,.int .i64 t.rk.va,.int .i64 t.rk.ag,.int .i64 t.rk.zo,Ar t.cv]
theorem sTm1 (t:Tm):Aj Tryz.prog 144 [.mem (au t)] [] (.d (.bool (okS t.sf t.st))) [] []:=by
 have ck:=Ll t.sf t.st
 simp only [vS] at ck
 refine qP Tryz.func144 λc hP hfn=>?_;simp only [au,Ar,A0,↓A3,seval]
 repeat' first|(refine tz hP ck ?_;try simp only [A0,↓A3,seval])|refine ⟨λh=>?_,λh=>?_⟩|refine aX ?_|fail
 exact rr
theorem sTm2 (t:Tm):Aj Tryz.prog 145 [.mem (au t)] [] (.d (.bool (decide (Qe t.sf t.st≥1)&&decide (Qe t.sf t.st≤1100)))) [] []:=by
 have ck:=xb t.sf t.st
 simp only [vS] at ck
 refine qP Tryz.func145 λc hP hfn=>?_;simp only [au,Ar,A0,↓A3,seval]
 repeat' first|(refine tz hP ck ?_;try simp only [A0,↓A3,seval])|refine ⟨λh=>?_,λh=>?_⟩|refine aX ?_|fail
 exact rr
theorem sTm3 (t:Tm):Aj Tryz.prog 146 [.mem (au t)] [] (.d (.bool (Ih t.rk))) [] []:=by
 have ck:=mu t.rk
 simp only [vR,cR] at ck
 refine qP Tryz.func146 λc hP hfn=>?_;simp only [au,Ar,A0,↓A3,seval]
 repeat' first|(refine tz hP ck ?_;try simp only [A0,↓A3,seval])|refine ⟨λh=>?_,λh=>?_⟩|refine aX ?_|fail
 exact rr
theorem sTm4 (t:Tm) (hl:t.cv.length≤9223372036854775807):Aj Tryz.prog 148 [.mem (au t)] [] (.d (.bool (Hd t.cv))) [] []:=by
 have ck:=bo t.cv hl
 simp only [Ar] at ck
 refine qP Tryz.func148 λc hP hfn=>?_;simp only [au,Ar,A0,↓A3,seval]
 repeat' first|(refine tz hP ck ?_;try simp only [A0,↓A3,seval])|refine ⟨λh=>?_,λh=>?_⟩|refine aX ?_|fail
 exact rr
def Ow (t:Tm):Bool:=okS t.sf t.st&&(decide (Qe t.sf t.st≥1)&&decide (Qe t.sf t.st≤1100))&&Ih t.rk&&Hd t.cv
theorem Y1 (t:Tm) (hl:t.cv.length≤9223372036854775807):Aj Tryz.prog 117 [ie t] [] (.d (.bool (Ow t))) [] []:=by
 have ca:=sAll (au t) _ _ _ _ (sTm1 t) (sTm2 t) (sTm3 t) (sTm4 t hl)
 simp only [H7,au] at ca
 refine qP Tryz.func117 λc hP hfn=>?_;simp only [ie,uf,A0,↓A3,seval]
 refine TR.wk _ (Wk.pubF 1 rfl rfl) ?_
 simp only [A0,↓A3,seval]
 refine tC [(7,.lit 35 1 4 [.fn (.func 144) [] [.mem (au t)],.fn (.func 145) [] [.mem (au t)],.fn (.func 146) [] [.mem (au t)],.fn (.func 148) [] [.mem (au t)]])] [] hP ca (B7 rfl) ?_
 simp only [A0,↓A3,seval]
 repeat' first|refine ⟨λh=>?_,λh=>?_⟩|refine aX ?_|fail
 exact rr
theorem TR.gpv {c:B3} {b:Bool} {is:List I} {st:St} {acc:List Lg} {K:List Lg→St→Prop} {P:Program} (hP:c.P=P) {d:Option Nat} {s:Nat} {want gc:Bool} {x:X} {f:Nat} {first cap:List V} {xs:List X} {res:V} (hg:gOf st.env s want=some gc)
  (hx:gc=true→evV st x=.fn (.func f) first cap) (hS:gc=true→Aj P f (first++(evVs st xs++cap)) [] res [] []) (hsx:gc=true→evS true st x) (hs:gc=true→evSs true st xs)
  (h:El c b is (st.stp d { val:=.gd gc res,upd:=[],rd:=[],new:=[] }) (lgs b acc ⟨[],[]⟩) K):TR c b (⟨d,some (s,want),.callv x xs⟩::is) st acc K:=
 TR.cons { val:=.gd gc res,upd:=[],rd:=[],new:=[] } (Hk hg λe=>Fq (hx e) (by rw [hP];exact hS e) (hsx e) (hs e) (λk o h=>by simp at h) (by simp [keysO])) (λk hk=>by simp at hk) (C1 h)
def fD (g:Nat):D:=.raw (.func (.func g) #[] #[])
def qm (m:Int):D:=if m=4 then fD 172 else if m=3 then fD 171 else if m=2 then fD 170 else if m=1 then fD 169 else .raw .nilFunc
theorem ui:Aj Tryz.prog 150 [] [] (.osl 1) [(1,.mp (.raw .nilFunc) qm)] [1]:=by
 refine qO Tryz.func150 ?_
 intro c hP hfn
 simp only [A5,V.names,A4,A0,↓A3,seval]
 have hne:∀ g,¬ (D.raw (Value.func (.func g) #[] #[])=D.raw Value.nilFunc):=λg h=>by injection h with h;cases h
 refine ⟨hne _,hne _,hne _,hne _,rK (Wk.refl _ _) ?_⟩
 simp only [A7,A0,↓A3,seval]
 exact Bf.eq rfl
def C0 (c:Ch):Bool:=decide (c.kd=1∨c.kd=2∨c.kd=3∨c.kd=4)&&Jz c.bk&&Jz c.dy&&(if c.kd=1 then ck1 c else if c.kd=2 then ck2 c else if c.kd=3 then ck3 c else ck4 c)
theorem Q1 (c':Ch) (hl:c'.cv.length≤9223372036854775807):Aj Tryz.prog 118 [Ia c'] [] (.d (.bool (C0 c'))) [] []:=by
 have k1:=sCk1 c'
 have k2:=sCk2 c' hl
 have k3:=sCk3 c'
 have k4:=sCk4 c'
 have d1:=sDay
 simp only [Ia,Js,Ar] at k1 k2 k3 k4
 refine qP Tryz.func118 λc hP hfn=>?_;simp only [Ia,Js,Ar,A0,↓A3,seval]
 have cc:=(ui.sw 1 6)
 simp only [A0,↓A3,seval] at cc
 refine TR.call [] [(6,.mp (.raw .nilFunc) qm)] (.osl 6) [6] (by rw [hP];exact cc) (by repeat' first|exact trivial|(intro _;assumption)|apply And.intro) (λk o h=>by simp at h) (by simp [keysO]) (by simp) ?_
 clear cc
 have f1:qm 1=fD 169:=rfl
 have f2:qm 2=fD 170:=rfl
 have f3:qm 3=fD 171:=rfl
 have f4:qm 4=fD 172:=rfl
 have zA:(#[]:Array Value).size=0:=rfl
 by_cases hb:(Jz c'.bk&&Jz c'.dy)=true
 ·have hb':Jz c'.bk=true∧Jz c'.dy=true:=by simpa using hb
  have hr:c'.kd=1∨c'.kd=2∨c'.kd=3∨c'.kd=4∨(¬ c'.kd=1∧¬ c'.kd=2∧¬ c'.kd=3∧¬ c'.kd=4):=by omega
  rcases hr with e1|e1|e1|e1|⟨e1,e2,e3,e4⟩
  ·have hr:C0 c'=ck1 c':=by simp [C0,e1,hb'.1,hb'.2]
   rw [hr]
   simp only [Jz] at hb
   clear hr hb'
   rw [e1] at k1 ⊢
   simp only [f1,fD,X1,zA,e1,A0,↓A3,seval]
   repeat' first|(refine tz hP (d1 _) ?_;try simp only [hb,zA,A0,↓A3,seval])|refine ⟨λh=>?_,λh=>?_⟩|refine aX ?_|fail
   refine TR.gpv (gc:=true) hP rfl (λ_=>rfl) (λ_=>k1) (by intro _;simp only [A0,↓A3,seval]) (by intro _;simp only [A0,↓A3,seval]) ?_
   simp only [A0,↓A3,seval]
   repeat' first|refine ⟨λh=>?_,λh=>?_⟩|refine aX ?_|fail
   exact rr
  ·have hr:C0 c'=ck2 c':=by simp [C0,e1,hb'.1,hb'.2]
   rw [hr]
   simp only [Jz] at hb
   clear hr hb'
   rw [e1] at k2 ⊢
   simp only [f2,fD,X1,zA,e1,A0,↓A3,seval]
   repeat' first|(refine tz hP (d1 _) ?_;try simp only [hb,zA,A0,↓A3,seval])|refine ⟨λh=>?_,λh=>?_⟩|refine aX ?_|fail
   refine TR.gpv (gc:=true) hP rfl (λ_=>rfl) (λ_=>k2) (by intro _;simp only [A0,↓A3,seval]) (by intro _;simp only [A0,↓A3,seval]) ?_
   simp only [A0,↓A3,seval]
   repeat' first|refine ⟨λh=>?_,λh=>?_⟩|refine aX ?_|fail
   exact rr
  ·have hr:C0 c'=ck3 c':=by simp [C0,e1,hb'.1,hb'.2]
   rw [hr]
   simp only [Jz] at hb
   clear hr hb'
   rw [e1] at k3 ⊢
   simp only [f3,fD,X1,zA,e1,A0,↓A3,seval]
   repeat' first|(refine tz hP (d1 _) ?_;try simp only [hb,zA,A0,↓A3,seval])|refine ⟨λh=>?_,λh=>?_⟩|refine aX ?_|fail
   refine TR.gpv (gc:=true) hP rfl (λ_=>rfl) (λ_=>k3) (by intro _;simp only [A0,↓A3,seval]) (by intro _;simp only [A0,↓A3,seval]) ?_
   simp only [A0,↓A3,seval]
   repeat' first|refine ⟨λh=>?_,λh=>?_⟩|refine aX ?_|fail
   exact rr
  ·have hr:C0 c'=ck4 c':=by simp [C0,e1,hb'.1,hb'.2]
   rw [hr]
   simp only [Jz] at hb
   clear hr hb'
   rw [e1] at k4 ⊢
   simp only [f4,fD,X1,zA,e1,A0,↓A3,seval]
   repeat' first|(refine tz hP (d1 _) ?_;try simp only [hb,zA,A0,↓A3,seval])|refine ⟨λh=>?_,λh=>?_⟩|refine aX ?_|fail
   refine TR.gpv (gc:=true) hP rfl (λ_=>rfl) (λ_=>k4) (by intro _;simp only [A0,↓A3,seval]) (by intro _;simp only [A0,↓A3,seval]) ?_
   simp only [A0,↓A3,seval]
   repeat' first|refine ⟨λh=>?_,λh=>?_⟩|refine aX ?_|fail
   exact rr
  ·have hr:C0 c'=false:=by simp [C0,e1,e2,e3,e4]
   have f0:qm c'.kd=.raw .nilFunc:=by simp [qm,e1,e2,e3,e4]
   rw [hr]
   simp only [f0,X1,A0,↓A3,seval]
   repeat' first|(refine tz hP (d1 _) ?_;try simp only [A0,↓A3,seval])|refine ⟨λh=>?_,λh=>?_⟩|refine aX ?_|fail
   refine TR.gpv (gc:=false) (first:=[]) (cap:=[]) (f:=0) (res:=.d (.bool false)) hP rfl (λh=>by cases h) (λh=>by cases h) (λh=>by cases h) (λh=>by cases h) ?_
   simp only [A0,↓A3,seval]
   repeat' first|refine ⟨λh=>?_,λh=>?_⟩|refine aX ?_|fail
   exact rr
 ·have hb0:(Jz c'.bk&&Jz c'.dy)=false:=by simpa using hb
  have hr:C0 c'=false:=by
   simp only [C0,Bool.and_assoc]
   rw [←Bool.and_assoc (Jz c'.bk),hb0];simp
  rw [hr]
  simp only [Jz] at hb0
  have hr4:c'.kd=1∨c'.kd=2∨c'.kd=3∨c'.kd=4∨(¬ c'.kd=1∧¬ c'.kd=2∧¬ c'.kd=3∧¬ c'.kd=4):=by omega
  clear hr hb
  rcases hr4 with e1|e1|e1|e1|⟨e1,e2,e3,e4⟩
  ·simp only [f1,fD,X1,zA,e1,A0,↓A3,seval]
   repeat' first|(refine tz hP (d1 _) ?_;try simp only [hb0,zA,A0,↓A3,seval])|refine ⟨λh=>?_,λh=>?_⟩|refine aX ?_|fail
   refine TR.gpv (gc:=false) (first:=[]) (cap:=[]) (f:=0) (res:=.d (.bool false)) hP rfl (λh=>by cases h) (λh=>by cases h) (λh=>by cases h) (λh=>by cases h) ?_
   simp only [A0,↓A3,seval]
   repeat' first|refine ⟨λh=>?_,λh=>?_⟩|refine aX ?_|fail
   exact rr
  ·simp only [f2,fD,X1,zA,e1,A0,↓A3,seval]
   repeat' first|(refine tz hP (d1 _) ?_;try simp only [hb0,zA,A0,↓A3,seval])|refine ⟨λh=>?_,λh=>?_⟩|refine aX ?_|fail
   refine TR.gpv (gc:=false) (first:=[]) (cap:=[]) (f:=0) (res:=.d (.bool false)) hP rfl (λh=>by cases h) (λh=>by cases h) (λh=>by cases h) (λh=>by cases h) ?_
   simp only [A0,↓A3,seval]
   repeat' first|refine ⟨λh=>?_,λh=>?_⟩|refine aX ?_|fail
   exact rr
  ·simp only [f3,fD,X1,zA,e1,A0,↓A3,seval]
   repeat' first|(refine tz hP (d1 _) ?_;try simp only [hb0,zA,A0,↓A3,seval])|refine ⟨λh=>?_,λh=>?_⟩|refine aX ?_|fail
   refine TR.gpv (gc:=false) (first:=[]) (cap:=[]) (f:=0) (res:=.d (.bool false)) hP rfl (λh=>by cases h) (λh=>by cases h) (λh=>by cases h) (λh=>by cases h) ?_
   simp only [A0,↓A3,seval]
   repeat' first|refine ⟨λh=>?_,λh=>?_⟩|refine aX ?_|fail
   exact rr
  ·simp only [f4,fD,X1,zA,e1,A0,↓A3,seval]
   repeat' first|(refine tz hP (d1 _) ?_;try simp only [hb0,zA,A0,↓A3,seval])|refine ⟨λh=>?_,λh=>?_⟩|refine aX ?_|fail
   refine TR.gpv (gc:=false) (first:=[]) (cap:=[]) (f:=0) (res:=.d (.bool false)) hP rfl (λh=>by cases h) (λh=>by cases h) (λh=>by cases h) (λh=>by cases h) ?_
   simp only [A0,↓A3,seval]
   repeat' first|refine ⟨λh=>?_,λh=>?_⟩|refine aX ?_|fail
   exact rr
  ·have f0:qm c'.kd=.raw .nilFunc:=by simp [qm,e1,e2,e3,e4]
   simp only [f0,X1,A0,↓A3,seval]
   repeat' first|(refine tz hP (d1 _) ?_;try simp only [hb0,A0,↓A3,seval])|refine ⟨λh=>?_,λh=>?_⟩|refine aX ?_|fail
   refine TR.gpv (gc:=false) (first:=[]) (cap:=[]) (f:=0) (res:=.d (.bool false)) hP rfl (λh=>by cases h) (λh=>by cases h) (λh=>by cases h) (λh=>by cases h) ?_
   simp only [A0,↓A3,seval]
   repeat' first|refine ⟨λh=>?_,λh=>?_⟩|refine aX ?_|fail
   exact rr
end Go.Proofs.YtakohhkgeeoniaaGreat
end
section
namespace Go.Proofs.YtakohhkgeeoniaaGreat
open Go.Bx
section
variable {X:Type} (lt:X→X→Bool)
structure bq:Prop where
 asy:∀ a b,lt a b=true→lt b a=false
 nt:∀ a b c,lt a b=false→lt b c=false→lt a c=false
def Ge (l:List X):Prop:=l.Pairwise (λx y=>lt y x=false)
def Bt:List X→List X→List X
 |[],B=>B
 |a::A,[]=>a::A
 |a::A,b::B=>if lt b a=true then b::Bt (a::A) B else a::Bt A (b::B)
termination_by a b=>a.length+b.length
theorem C3 (A:List X):Bt lt A []=A:=by cases A<;>simp [Bt]
theorem Bu (B:List X):Bt lt [] B=B:=by simp [Bt]
theorem Gi:∀ (A1 B1 A2 B2:List X),(∀ b,b∈B1→∀ a,a∈A2→lt b a=true)→(∀ a,a∈A1→∀ b,b∈B2→lt b a=false)→Bt lt (A1++A2) (B1++B2)=Bt lt A1 B1++Bt lt A2 B2
 |[],[],A2,B2,_,_=>by rw [Bu];rfl
 |[],b::B1,[],B2,_,_=>by simp [Bu]
 |[],b::B1,a::A2,B2,h1,h2=>by
  have:=Gi [] B1 (a::A2) B2 (λb hb a ha=>h1 b (by simp [hb]) a ha) (λa ha=>by simp at ha)
  rw [List.nil_append,Bu] at this
  rw [List.nil_append,Bu,List.cons_append,Bt,if_pos (h1 b (by simp) a (by simp)),this,List.cons_append]
 |a::A1,[],A2,[],_,_=>by rw [List.append_nil,C3,C3,C3]
 |a::A1,[],A2,b::B2,h1,h2=>by
  have:=Gi A1 [] A2 (b::B2) (λb hb=>by simp at hb) (λa ha b hb=>h2 a (by simp [ha]) b hb)
  rw [List.nil_append,C3] at this
  rw [List.nil_append,C3,List.cons_append,Bt,if_neg (by rw [h2 a (by simp) b (by simp)];simp),this,List.cons_append]
 |a::A1,b::B1,A2,B2,h1,h2=>by
  rw [List.cons_append,List.cons_append,Bt,Bt]
  by_cases h:lt b a=true
  ·rw [if_pos h,if_pos h,List.cons_append]
   have:=Gi (a::A1) B1 A2 B2 (λb hb a ha=>h1 b (by simp [hb]) a ha) h2
   rw [List.cons_append] at this
   rw [this]
  ·rw [if_neg h,if_neg h,List.cons_append]
   have:=Gi A1 (b::B1) A2 B2 h1 (λa ha b hb=>h2 a (by simp [ha]) b hb)
   rw [List.cons_append] at this
   rw [this]
termination_by A1 B1=>A1.length+B1.length
theorem I9:∀ (A B:List X),(Bt lt A B).Perm (A++B)
 |[],B=>by rw [Bu];exact List.Perm.refl _
 |a::A,[]=>by rw [C3];simp
 |a::A,b::B=>by
  rw [Bt]
  split
  ·exact ((List.Perm.cons b (I9 (a::A) B))).trans (List.perm_middle (l₁:=a::A) (a:=b) (l₂:=B)).symm
  ·exact List.Perm.cons a (I9 A (b::B))
termination_by A B=>A.length+B.length
theorem Yt (A B:List X):(Bt lt A B).length=A.length+B.length:=by have:=(I9 lt A B).length_eq;simpa using this
variable {lt}
theorem Im (w:bq lt):∀ (A B:List X),Ge lt A→Ge lt B→Ge lt (Bt lt A B)
 |[],B,_,hB=>by rw [Bu];exact hB
 |a::A,[],hA,_=>by rw [C3];exact hA
 |a::A,b::B,hA,hB=>by
  have hA':=List.pairwise_cons.1 hA
  have hB':=List.pairwise_cons.1 hB
  rw [Bt]
  split
  ·rename_i h
   refine List.pairwise_cons.2 ⟨λz hz=>?_,Im w (a::A) B hA hB'.2⟩
   rcases List.mem_append.1 ((I9 lt (a::A) B).mem_iff.1 hz) with h1|h1
   ·have hab:=w.asy b a h
    rcases List.mem_cons.1 h1 with rfl|h1
    ·exact hab
    ·exact w.nt z a b (hA'.1 z h1) hab
   ·exact hB'.1 z h1
  ·rename_i h
   have h:lt b a=false:=by simpa using h
   refine List.pairwise_cons.2 ⟨λz hz=>?_,Im w A (b::B) hA'.2 hB⟩
   rcases List.mem_append.1 ((I9 lt A (b::B)).mem_iff.1 hz) with h1|h1
   ·exact hA'.1 z h1
   ·rcases List.mem_cons.1 h1 with rfl|h1
    ·exact h
    ·exact w.nt z b a (hB'.1 z h1) h
termination_by A B=>A.length+B.length
theorem Lp {A:List X} {b:X} (h:∀ a,a∈A→lt b a=true):Bt lt A [b]=b::A:=by
 cases A with
 |nil=>rw [Bu]
 |cons a A=>rw [Bt,if_pos (h a (by simp)),C3]
theorem X5 {A1 A2:List X} {b:X} (h1:∀ a,a∈A2→lt b a=true) (h2:∀ a,a∈A1→lt b a=false):Bt lt (A1++A2) [b]=A1++b::A2:=by
 have:=Gi lt A1 [] A2 [b] (λb hb=>by simp at hb) (λa ha c hc=>by simp at hc;subst hc;exact h2 a ha)
 rw [List.nil_append,C3,Lp h1] at this
 exact this
theorem Gm (w:bq lt):∀ (A B C:List X),Ge lt A→Ge lt B→Ge lt C→Bt lt (Bt lt A B) C=Bt lt A (Bt lt B C)
 |[],B,C,_,_,_=>by rw [Bu,Bu]
 |a::A,[],C,_,_,_=>by rw [C3,Bu]
 |a::A,b::B,[],_,_,_=>by rw [C3,C3]
 |a::A,b::B,c::C,hA,hB,hC=>by
  have hA':=List.pairwise_cons.1 hA
  have hB':=List.pairwise_cons.1 hB
  have hC':=List.pairwise_cons.1 hC
  by_cases h1:lt b a=true
  ·have e1:Bt lt (a::A) (b::B)=b::Bt lt (a::A) B:=by rw [Bt,if_pos h1]
   by_cases h2:lt c b=true
   ·have e2:Bt lt (b::B) (c::C)=c::Bt lt (b::B) C:=by rw [Bt,if_pos h2]
    have hca:lt c a=true:=by
     cases h:lt c a with
     |true=>rfl
     |false=>have:=w.nt c a b h (w.asy b a h1);rw [h2] at this;cases this
    rw [e1,e2,Bt,if_pos h2,Bt,if_pos hca,←e1,Gm w (a::A) (b::B) C hA hB hC'.2]
   ·have e2:Bt lt (b::B) (c::C)=b::Bt lt B (c::C):=by rw [Bt,if_neg h2]
    rw [e1,e2,Bt,if_neg h2,Bt,if_pos h1,Gm w (a::A) B (c::C) hA hB'.2 hC]
  ·have e1:Bt lt (a::A) (b::B)=a::Bt lt A (b::B):=by rw [Bt,if_neg h1]
   by_cases h2:lt c b=true
   ·have e2:Bt lt (b::B) (c::C)=c::Bt lt (b::B) C:=by rw [Bt,if_pos h2]
    by_cases h3:lt c a=true
    ·rw [e1,e2,Bt,if_pos h3,Bt,if_pos h3,←e1,Gm w (a::A) (b::B) C hA hB hC'.2]
    ·rw [e1,e2,Bt,if_neg h3,Bt,if_neg h3,←e2,Gm w A (b::B) (c::C) hA'.2 hB hC]
   ·have e2:Bt lt (b::B) (c::C)=b::Bt lt B (c::C):=by rw [Bt,if_neg h2]
    have h1':lt b a=false:=by simpa using h1
    have h2':lt c b=false:=by simpa using h2
    have hca:¬ lt c a=true:=by rw [w.nt c b a h2' h1'];simp
    rw [e1,e2,Bt,if_neg hca,Bt,if_neg h1,←e2,Gm w A (b::B) (c::C) hA'.2 hB hC]
termination_by A B C=>A.length+B.length+C.length
variable (lt)
def srt:List X→List X→List X
 |S,[]=>S
 |S,e::M=>srt (Bt lt S [e]) M
variable {lt}
theorem C7 (w:bq lt):∀ (M S:List X),Ge lt S→Ge lt (srt lt S M)
 |[],S,h=>h
 |e::M,S,h=>by rw [srt];exact C7 w M _ (Im w S [e] h (List.pairwise_singleton _ _))
theorem Un (w:bq lt):∀ (M S:List X),Ge lt S→srt lt S M=Bt lt S (srt lt [] M)
 |[],S,_=>by rw [srt,srt,C3]
 |e::M,S,h=>by
  have h1:Ge lt [e]:=List.pairwise_singleton _ _
  rw [srt,srt,Bu,Un w M _ (Im w S [e] h h1),Un w M [e] h1,Gm w S [e] _ h h1 (C7 w M [] List.Pairwise.nil)]
theorem Oy (lt:X→X→Bool):∀ (M N S:List X),srt lt S (M++N)=srt lt (srt lt S M) N
 |[],N,S=>rfl
 |e::M,N,S=>by rw [List.cons_append,srt,srt,Oy lt M N]
theorem Oo (w:bq lt) (M N:List X):Bt lt (srt lt [] M) (srt lt [] N)=srt lt [] (M++N):=by
 rw [Oy,Un w N _ (C7 w M [] List.Pairwise.nil)]
theorem Fo (lt:X→X→Bool):∀ (M S:List X),(srt lt S M).Perm (S++M)
 |[],S=>by rw [srt];simp
 |e::M,S=>by
  rw [srt]
  refine (Fo lt M _).trans ((List.Perm.append_right M (I9 lt S [e])).trans ?_)
  rw [List.append_assoc];exact List.Perm.refl _
theorem F1 (lt:X→X→Bool) (M S:List X):(srt lt S M).length=S.length+M.length:=by have:=(Fo lt M S).length_eq;simpa using this
end
section
variable {X:Type} (d:X)
def Rx (l:List X) (i j:Nat):List X:=(l.set i (l.getD j d)).set j (l.getD i d)
theorem Ot (l:List X) (i j:Nat):(Rx d l i j).length=l.length:=by simp [Rx]
theorem U9 {l:List X} {i j:Nat} (hi:i<l.length) (hj:j<l.length) (m:Nat):(Rx d l i j).getD m d=if m=j then l.getD i d else if m=i then l.getD j d else l.getD m d:=by
 simp only [Rx,List.getD_eq_getElem?_getD,List.getElem?_set,List.length_set]
 by_cases h1:j=m
 ·subst h1;simp [hj]
 ·have h1':¬ m=j:=λe=>h1 e.symm
  rw [if_neg h1,if_neg h1']
  by_cases h2:i=m
  ·subst h2;simp [hi]
  ·have h2':¬ m=i:=λe=>h2 e.symm
   rw [if_neg h2,if_neg h2']
theorem Gu (u:List X) (p:X) (w:List X):(u++p::w).getD u.length d=p:=by rw [List.getD_eq_getElem?_getD,List.getElem?_append_right (Nat.le_refl _)];simp
theorem ae (u:List X) (p q:X) (w:List X):(u++p::w).set u.length q=u++q::w:=by rw [List.set_append_right _ _ (Nat.le_refl _)];simp
theorem swq_at (u:List X) (p:X) (v:List X) (q:X) (w:List X) {i j:Nat} (hi:i=u.length) (hj:j=u.length+1+v.length):Rx d (u++p::(v++q::w)) i j=u++q::(v++p::w):=by
 subst hi;subst hj
 have e:u++p::(v++q::w)=(u++p::v)++q::w:=by simp
 have hl:u.length+1+v.length=(u++p::v).length:=by simp;omega
 have g1:(u++p::(v++q::w)).getD (u.length+1+v.length) d=q:=by rw [e,hl];exact Gu d _ _ _
 have g2:(u++p::(v++q::w)).getD u.length d=p:=Gu d _ _ _
 have hl2:u.length+1+v.length=(u++q::v).length:=by simp;omega
 rw [Rx,g1,g2,ae]
 have e2:u++q::(v++q::w)=(u++q::v)++q::w:=by simp
 rw [e2,hl2,ae];simp
theorem Qf (u:List X) (p q:X) (w:List X) {i j:Nat} (hi:i=u.length) (hj:j=u.length+1):Rx d (u++p::q::w) i j=u++q::p::w:=swq_at d u p [] q w hi (by simpa using hj)
theorem Kk (u:List X) (p q:X) (w:List X) {i j:Nat} (hi:i=u.length+1) (hj:j=u.length):Rx d (u++p::q::w) i j=u++q::p::w:=by
 have h:=Qf d u p q w hj hi
 rw [←h]
 unfold Rx
 by_cases e:i=j
 ·omega
 ·rw [List.set_comm _ _ e]
end
end Go.Proofs.YtakohhkgeeoniaaGreat
end
section
namespace Go.Proofs.YtakohhkgeeoniaaGreat
open Go.Bx
section
variable {X Y:Type} {lt:X→X→Bool}
end
structure Cm where
 id:Int
 po:Int
 pe:Int
 lo:Int
 bk:Int
 ev:Int
instance:Inhabited Cm:=⟨⟨0,0,0,0,0,0⟩⟩
structure Ac where
 bk:Int
 kd:Int
 am:Int
instance:Inhabited Ac:=⟨⟨0,0,0⟩⟩
structure Fi where
 cl:Cm
 ac:List Ac
instance:Inhabited Fi:=⟨⟨default,[]⟩⟩
structure Az where
 fi:Nat
 ac:Ac
instance:Inhabited Az:=⟨⟨0,default⟩⟩
def B6:Nat→List Fi→List Az
 |_,[]=>[]
 |k,f::r=>f.ac.map (λa=>⟨k,a⟩)++B6 (k+1) r
def ql (s t:Az):Bool:=decide (s.ac.bk<t.ac.bk) || (decide (s.ac.bk=t.ac.bk)&&decide (s.fi<t.fi))
theorem Ut {s t:Az}:ql s t=true↔s.ac.bk<t.ac.bk∨(s.ac.bk=t.ac.bk∧s.fi<t.fi):=by
 simp [ql]
theorem swoS:bq ql:=⟨λa b h=>by
  cases h2:ql b a with
  |false=>rfl
  |true=>rw [Ut] at *;omega,λa b c h1 h2=>by
  cases h3:ql a c with
  |false=>rfl
  |true =>
   have n1:¬ ql a b=true:=by rw [h1];simp
   have n2:¬ ql b c=true:=by rw [h2];simp
   rw [Ut] at n1 n2 h3;omega⟩
def G5 (M:List Az):List Az:=srt ql [] M
structure PS where
 sh:Nat→Int
 pd:Nat→Int
 al:Int
 rows:List (Nat×Int×Int)
def F4 (f:Nat→Int) (k:Nat) (v:Int) (i:Nat):Int:=if i=k then v else f i
def E9 (f:Int→Int→Int) (x:PS) (s:Az):PS:=
 if s.ac.kd≠2 then x else
  if f (x.sh s.fi+s.ac.am) (x.al-x.pd s.fi)-x.pd s.fi≤0 then { x with sh:=F4 x.sh s.fi (x.sh s.fi+s.ac.am) }
  else ⟨F4 x.sh s.fi (x.sh s.fi+s.ac.am),F4 x.pd s.fi (x.pd s.fi+(f (x.sh s.fi+s.ac.am) (x.al-x.pd s.fi)-x.pd s.fi)),x.al+(f (x.sh s.fi+s.ac.am) (x.al-x.pd s.fi)-x.pd s.fi),
   x.rows++[(s.fi,s.ac.bk,f (x.sh s.fi+s.ac.am) (x.al-x.pd s.fi)-x.pd s.fi)]⟩
def qj:PS:=⟨λ_=>0,λ_=>0,0,[]⟩
def Fd (f:Int→Int→Int) (L:List Az):PS:=L.foldl (E9 f) qj
structure yx (r:Nat→Nat) (K:Nat→Prop) (x y:PS):Prop where
 sh:∀ k,K k→y.sh (r k)=x.sh k
 pd:∀ k,K k→y.pd (r k)=x.pd k
 al:y.al=x.al
theorem yx.step {f:Int→Int→Int} {r:Nat→Nat} {K:Nat→Prop} (hr:∀ a b,K a→K b→r a=r b→a=b) {x y:PS} (h:yx r K x y) {s:Az} (hs:K s.fi):yx r K (E9 f x s) (E9 f y ⟨r s.fi,s.ac⟩):=by
 have u:∀ (g1 g2:Nat→Int),(∀ k,K k→g2 (r k)=g1 k)→∀ v k,K k→F4 g2 (r s.fi) v (r k)=F4 g1 s.fi v k:=λg1 g2 hg v k hk=>by
  unfold F4
  by_cases e:k=s.fi
  ·rw [if_pos e,if_pos (by rw [e])]
  ·rw [if_neg e,if_neg λh=>e (hr k s.fi hk hs h)];exact hg k hk
 unfold E9
 simp only [h.sh s.fi hs,h.pd s.fi hs,h.al]
 split
 ·exact h
 ·split
  ·exact ⟨u _ _ h.sh _,h.pd,rfl⟩
  ·exact ⟨u _ _ h.sh _,u _ _ h.pd _,rfl⟩
theorem fw (f:Int→Int→Int) (x:PS) (s:Az):∃ R,(E9 f x s).rows=x.rows++R∧(∀ p,p∈R→p.1=s.fi∧p.2.1=s.ac.bk∧0<p.2.2)∧(E9 f x s).al=x.al+(R.map (·.2.2)).sum:=by
 unfold E9
 split
 ·exact ⟨[],by simp,λp hp=>by simp at hp,by simp⟩
 ·split
  ·exact ⟨[],by simp,λp hp=>by simp at hp,by simp⟩
  ·rename_i h1 h2
   refine ⟨_,rfl,λp hp=>?_,by simp⟩
   rw [List.mem_singleton.1 hp]
   exact ⟨rfl,rfl,by simp only;omega⟩
theorem Wa (f:Int→Int→Int):∀ (L:List Az) (x:PS),∃ R,(L.foldl (E9 f) x).rows=x.rows++R∧(∀ p,p∈R→0<p.2.2∧∃ s,s∈L∧p.1=s.fi∧p.2.1=s.ac.bk)∧(L.foldl (E9 f) x).al=x.al+(R.map (·.2.2)).sum
 |[],x=>⟨[],by simp,λp hp=>by simp at hp,by simp⟩
 |s::L,x=>by
  obtain ⟨R1,h1,h2,h3⟩:=fw f x s
  obtain ⟨R2,h4,h5,h6⟩:=Wa f L (E9 f x s)
  refine ⟨R1++R2,by rw [List.foldl_cons,h4,h1,List.append_assoc],λp hp=>?_,by rw [List.foldl_cons,h6,h3,List.map_append,List.sum_append];omega⟩
  rcases List.mem_append.1 hp with hp|hp
  ·have:=h2 p hp;exact ⟨this.2.2,s,by simp,this.1,this.2.1⟩
  ·obtain ⟨g1,t,ht,g2⟩:=h5 p hp;exact ⟨g1,t,by simp [ht],g2⟩
end Go.Proofs.YtakohhkgeeoniaaGreat
end
section
namespace Go.Proofs.YtakohhkgeeoniaaGreat
open Go.Bx
theorem Iw:∀ {l:List Fi} {k:Nat} {s:Az},s∈B6 k l→k≤s.fi∧∃ f,l[s.fi-k]?=some f∧s.ac∈f.ac
 |[],k,s,h=>by simp [B6] at h
 |f::r,k,s,h=>by
  rw [B6] at h
  rcases List.mem_append.1 h with h|h
  ·obtain ⟨a,ha,rfl⟩:=List.mem_map.1 h
   exact ⟨Nat.le_refl _,f,by simp,ha⟩
  ·obtain ⟨h1,g,h2,h3⟩:=Iw h
   refine ⟨by omega,g,?_,h3⟩
   rw [show s.fi-k=(s.fi-(k+1))+1 by omega,List.getElem?_cons_succ];exact h2
end Go.Proofs.YtakohhkgeeoniaaGreat
end
section
namespace Go.Proofs.YtakohhkgeeoniaaGreat
open Go.Bx
set_option maxRecDepth 10000
def Xr (t:Tm) (d:Int):Bool:=decide (d≥(F3 t.sf t.st).1)&&decide (d<(F3 t.sf t.st).2)
def He (h:Hi):Bool:=h.ch.all (λc=>C0 c&&Xr h.tm c.dy)&&(Ow h.tm&&decide (h.ch.length≤2000))
structure SzHi (h:Hi):Prop where
 tc:h.tm.cv.length≤9223372036854775807
 ch:h.ch.length≤9223372036854775807
 cc:∀ c,c∈h.ch→c.cv.length≤9223372036854775807
theorem kw (hh:Hi) (z:SzHi hh):Aj Tryz.prog 107 [Da hh] [] (.d (.bool (He hh))) [] []:=by
 refine qP Tryz.func107 λc hP hfn=>?_;simp only [Da,Dd,Bv,A0,↓A3,seval]
 refine B4.loop (X:=Nat) (λk=>⟨[(1,.own 1 0),(6,.d (Bv hh.ch)),(7,.d (.int .i64 hh.ch.length)),(8,.d (.int .i64 k))],[(1,.fix (Dd hh))],[1]⟩)
  (λk=>k≤hh.ch.length∧hh.ch.all (λc=>C0 c&&Xr hh.tm c.dy)=(hh.ch.drop k).all (λc=>C0 c&&Xr hh.tm c.dy)) (λk=>hh.ch.length-k) 0 ⟨Nat.zero_le _,rfl⟩ (Wk.of _ hfn rfl (by simp only [Bv,A7,A0,↓A3,seval]) (by simp only [Dd,Bv,A7,A0,↓A3,seval])) ?_
 rintro k ⟨hk,he⟩
 by_cases hlt:k<hh.ch.length
 ·obtain ⟨c',hd,hg,hm,-⟩:=Ae hlt
  have d0:decide ((k:Int)<(hh.ch.length:Int))=true:=decide_eq_true (by have:=z.ch;omega)
  have ewk:IntKind.i64.wrap ((k:Int)+1)=((k+1:Nat):Int):=wS (by have:=z.ch;omega)
  have cc:=Q1 c' (z.cc c' hm)
  have ci:=sIn hh.tm.sf hh.tm.st c'.dy
  simp only [Ia,Js,Ar] at cc
  simp only [vS] at ci
  rw [hd,List.all_cons] at he
  simp only [Bv,Bn,Ar,Dd,hg,d0,ewk,A0,↓A3,seval]
  repeat' first|(refine tq hP (h:=⟨_,λ_=>by first|exact cc|exact ci,?_⟩);try simp only [hg,ewk,A0,↓A3,seval])|refine ⟨λh=>?_,λh=>?_⟩|refine aX ?_|fail
  ·have hx:(C0 c'&&Xr hh.tm c'.dy)=false:=by
    cases h1:C0 c' with
    |false=>rfl
    |true =>
     rw [h1] at h
     cases h2:Xr hh.tm c'.dy with
     |false=>rfl
     |true=>exfalso;simp only [Xr] at h2;rw [h2] at h;simp at h
   have e:He hh=false:=by rw [He,he,hx];rfl
   (refine rq ?_;first|exact ⟨⟩|rw [e])
  ·have hx:(C0 c'&&Xr hh.tm c'.dy)=true:=by
    cases h1:C0 c' with
    |false=>rw [h1] at h;simp at h
    |true =>
     rw [h1] at h
     cases h2:Xr hh.tm c'.dy with
     |true=>rfl
     |false=>exfalso;simp only [Xr] at h2;rw [h2] at h;simp at h
   rw [hx,Bool.true_and] at he
   exact Al.on (k+1) ⟨hlt,he⟩ (by omega) (Wk.of _ hfn rfl (by simp only [Bv,Bn,Ar,A7,A0,↓A3,seval]) (by simp only [Dd,Bv,Bn,Ar,A7,A0,↓A3,seval]))
 ·have d0:decide ((k:Int)<(hh.ch.length:Int))=false:=decide_eq_false (by have:=z.ch;omega)
  rw [List.drop_eq_nil_of_le (by omega),List.all_nil] at he
  have ct:=Y1 hh.tm z.tc
  simp only [ie,uf] at ct
  have e:He hh=(Ow hh.tm&&decide ((hh.ch.length:Int)≤2000)):=by
   rw [He,he,Bool.true_and]
   congr 1
   exact decide_eq_decide.2 (by omega)
  simp only [Bv,Dd,d0,A0,↓A3,seval]
  repeat' first|(refine tz hP ct ?_;try simp only [A0,↓A3,seval])|refine ⟨λh=>?_,λh=>?_⟩|refine aX ?_|fail
  (refine rq ?_;first|exact ⟨⟩|rw [e])
structure Sl where
 sf:Int
 st:Int
 on:Bool
 rk:Rk
 cv:List Cv
 yr:Int
instance:Inhabited Sl:=⟨⟨0,0,false,default,[],0⟩⟩
def Dt (s:Sl):List V:=[.d (.int .i64 s.sf),.d (.int .i64 s.st),.d (.bool s.on),.d (.int .i64 s.rk.kd),.d (.int .i64 s.rk.va),.d (.int .i64 s.rk.ag),.d (.int .i64 s.rk.zo),.d (Ar s.cv),.d (.int .i64 s.yr)]
def ib (s:Sl):V:=.ag (Dt s)
def Ea (s:Sl):List D:=[.int .i64 s.sf,.int .i64 s.st,.bool s.on,.int .i64 s.rk.kd,.int .i64 s.rk.va,.int .i64 s.rk.ag,.int .i64 s.rk.zo,Ar s.cv,.int .i64 s.yr]
def E5 (l:List Sl):D:=.sl false 9 l.length (λi=>Ea (l.getD i default))
def Yf (a b:Cv):Bool:=(a.pe == b.pe)&&((a.li == b.li)&&((a.ag == b.ag)&&((a.de == b.de)&&(a.sh == b.sh))))
theorem Rb {a b:Cv}:Yf a b=true↔a=b:=by
 obtain ⟨a1,a2,a3,a4,a5⟩:=a
 obtain ⟨b1,b2,b3,b4,b5⟩:=b
 simp [Yf,and_assoc]
def np (a b:Rk):Bool:=(a.kd == b.kd)&&((a.va == b.va)&&((a.ag == b.ag)&&(a.zo == b.zo)))
theorem ju {a b:Rk}:np a b=true↔a=b:=by
 obtain ⟨a1,a2,a3,a4⟩:=a
 obtain ⟨b1,b2,b3,b4⟩:=b
 simp [np,and_assoc]
theorem sAlike (a b:List Cv) (ha:a.length≤9223372036854775806):Aj Tryz.prog 161 [.d (Ar a),.d (Ar b)] [] (.d (.bool (decide (a=b)))) [] []:=by
 by_cases hl:a.length=b.length
 ·have d0:(((a.length:Int) != (b.length:Int)))=false:=by rw [bne_eq_false_iff_eq];omega
  refine qP Tryz.func161 λc hP hfn=>?_;simp only [Ar,d0,A0,↓A3,seval]
  repeat' first|refine ⟨λh=>?_,λh=>?_⟩|refine aX ?_|fail
  refine B4.loop (X:=Nat) (λk=>⟨[(1,.d (Ar b)),(12,.d (Ar a)),(13,.d (.int .i64 a.length)),(14,.d (.int .i64 k))],[],[]⟩)
   (λk=>k≤a.length∧∀ j,j<k→a.getD j default=b.getD j default) (λk=>a.length-k) 0 ⟨Nat.zero_le _,λj hj=>absurd hj (Nat.not_lt_zero j)⟩ (Wk.of _ hfn rfl (by simp only [Ar,A7,A0,↓A3,seval]) (by simp only [A7,A0,↓A3,seval])) ?_
  rintro k ⟨hk,he⟩
  by_cases hlt:k<a.length
  ·obtain ⟨x,hd,hg,-,-⟩:=Ae hlt
   obtain ⟨y,hd2,hg2,-,-⟩:=Ae (l:=b) (k:=k) (by omega)
   have b0:decide ((k:Int)<(a.length:Int))=true:=decide_eq_true (by omega)
   have ewk:IntKind.i64.wrap ((k:Int)+1)=((k+1:Nat):Int):=wS (by omega)
   simp only [Ar,hg,hg2,b0,ewk,A0,↓A3,seval]
   repeat' first|refine ⟨λh=>?_,λh=>?_⟩|refine aX ?_|fail
   ·have hx:Yf x y=false:=by rw [Yf,←Bool.not_eq_true'];exact h
    have:a≠b:=by
     intro e
     rw [Rb.2 (by rw [←hg default,←hg2 default,e])] at hx
     exact absurd hx (by decide)
    (refine rq ?_;first|exact ⟨⟩|simp [this])
   ·have hx:x=y:=Rb.1 (by rw [Yf,←Bool.not_eq_false'];exact h)
    refine Al.on (k+1) ⟨hlt,λj hj=>?_⟩ (by omega) (Wk.of _ hfn rfl (by simp only [A7,A0,↓A3,seval]) (by simp only [A7,A0,↓A3,seval]))
    rcases Nat.lt_succ_iff_lt_or_eq.1 hj with h1|h1
    ·exact he j h1
    ·rw [h1,hg,hg2,hx]
  ·have b0:decide ((k:Int)<(a.length:Int))=false:=decide_eq_false (by omega)
   have:a=b:=by
    apply List.ext_getElem hl
    intro j h1 h2
    have:=he j (by omega)
    simpa [List.getD_eq_getElem?_getD,h1,h2] using this
   simp only [Ar,b0,A0,↓A3,seval]
   repeat' first|refine ⟨λh=>?_,λh=>?_⟩|refine aX ?_|fail
   (refine rq ?_;first|exact ⟨⟩|simp [this])
 ·have d0:(((a.length:Int) != (b.length:Int)))=true:=by rw [bne_iff_ne];omega
  have:a≠b:=λe=>hl (by rw [e])
  refine qP Tryz.func161 λc hP hfn=>?_;simp only [Ar,d0,A0,↓A3,seval]
  repeat' first|refine ⟨λh=>?_,λh=>?_⟩|refine aX ?_|fail
  (refine rq ?_;first|exact ⟨⟩|simp [this])
def R7 (a b:Sl):Bool:=(a.on == b.on)&&np a.rk b.rk&&decide (a.cv=b.cv)
theorem ma (a b:Sl) (ha:a.cv.length≤9223372036854775806):Aj Tryz.prog 134 [ib a,ib b] [] (.d (.bool (R7 a b))) [] []:=by
 have ca:=sAlike a.cv b.cv ha
 simp only [Ar] at ca
 refine qP Tryz.func134 λc hP hfn=>?_;simp only [ib,Dt,Ar,A0,↓A3,seval]
 repeat' first|(refine tz hP ca ?_;try simp only [A0,↓A3,seval])|refine ⟨λh=>?_,λh=>?_⟩|refine aX ?_|fail
 (refine rq ?_;first|exact ⟨⟩|simp [R7,np])
end Go.Proofs.YtakohhkgeeoniaaGreat
end
section
namespace Go.Proofs.YtakohhkgeeoniaaGreat
open Go.Bx
def Lm (v:Int):Bool:=decide (v≥-4000000000000000000)&&decide (v≤4000000000000000000)
def O0:Int→Int→List (Int×Int)→Bool
 |_,_,[]=>true
 |day,val,(d,v)::r=>!(decide (d≤day) || decide (d>292194) || (v == val) || !(Lm v))&&O0 d v r
def K8:Int→List (Int×Int)→Int→Int
 |cur,[],_=>cur
 |cur,(d,v)::r,day=>if d≤day then K8 v r day else cur
def Dq (P:List (Int×Int)) (day:Int):Int:=K8 0 P day
def Mh (f:Int→Int) (to:Int):Int→List Int→List ((Int×Int)×Int)
 |fr,[]=>[((fr,to),f fr)]
 |fr,d::r=>if d≤fr∨d≥to then Mh f to fr r else ((fr,d),f fr)::Mh f to d r
def Nn:Int→Int→List ((Int×Int)×Int)→Int×Int
 |sum,_,[]=>(sum,0)
 |sum,all,((p,q),v)::r=>if max v (-v)>(4000000000000000000-all) / (q-p) then (0,5) else Nn (sum+(q-p)*v) (all+(q-p)*max v (-v)) r
def Sc (a b:Int):Bool:=decide (a≥1)&&decide (a<b)&&decide (b≤292195)
def H6 (P:List (Int×Int)) (a b:Int):Int×Int:=if O0 0 0 P&&Sc a b then Nn 0 0 (Mh (Dq P) b a (P.map (·.1))) else (0,1)
def F6 (g:Int→Int):Int→Nat→Int
 |_,0=>0
 |a,n+1=>g a+F6 g (a+1) n
theorem Ql (g:Int→Int):∀ (m n:Nat) (a:Int),F6 g a (m+n)=F6 g a m+F6 g (a+m) n
 |0,n,a=>by simp [F6]
 |m+1,n,a=>by
  have e:a+((m+1:Nat):Int)=a+1+(m:Int):=by omega
  rw [show m+1+n=(m+n)+1 by omega,F6,F6,Ql g m n (a+1),e,Int.add_assoc (g a)]
theorem Lh {g:Int→Int} {v:Int}:∀ (n:Nat) (a:Int),(∀ d,a≤d→d<a+n→g d=v)→F6 g a n=n*v
 |0,a,_=>by simp [F6]
 |n+1,a,h=>by
  rw [F6,Lh n (a+1) (λd h1 h2=>h d (by omega) (by omega)),h a (by omega) (by omega)]
  rw [show ((n+1:Nat):Int)=1+(n:Int) by omega,Int.add_mul,Int.one_mul]
theorem No {g:Int→Int}:∀ (n:Nat) (a:Int),(∀ d,a≤d→d<a+n→0≤g d)→0≤F6 g a n
 |0,a,_=>Int.le_refl _
 |n+1,a,h=>by
  have h1:=h a (by omega) (by omega)
  have h2:=No n (a+1) (λd h1 h2=>h d (by omega) (by omega))
  rw [F6];omega
theorem M7:∀ {P:List (Int×Int)} {day val:Int},O0 day val P=true→(∀ p,p∈P→day<p.1∧p.1≤292194∧-4000000000000000000≤p.2∧p.2≤4000000000000000000)∧P.Pairwise (λa b=>a.1<b.1)
 |[],_,_,_=>⟨λp hp=>by simp at hp,List.Pairwise.nil⟩
 |(d,v)::r,day,val,h=>by
  simp only [O0,Lm,Bool.and_eq_true,Bool.not_eq_true',Bool.or_eq_false_iff,decide_eq_false_iff_not] at h
  obtain ⟨⟨⟨⟨h1,h2⟩,h3⟩,h4⟩,h5⟩:=h
  obtain ⟨i1,i2⟩:=M7 h5
  have hm:-4000000000000000000≤v∧v≤4000000000000000000:=by simpa using h4
  refine ⟨λp hp=>?_,List.pairwise_cons.2 ⟨λp hp=>(i1 p hp).1,i2⟩⟩
  rcases List.mem_cons.1 hp with rfl|hp
  ·exact ⟨by simp only;omega,by simp only;omega,hm⟩
  ·have:=i1 p hp;exact ⟨by omega,this.2⟩
theorem Ww:∀ {P:List (Int×Int)} {cur day:Int},K8 cur P day=cur∨∃ p,p∈P∧K8 cur P day=p.2
 |[],_,_=>.inl rfl
 |(d,v)::r,cur,day=>by
  rw [K8]
  split
  ·rcases Ww (P:=r) (cur:=v) (day:=day) with h|⟨p,h1,h2⟩
   ·exact .inr ⟨(d,v),by simp,h⟩
   ·exact .inr ⟨p,by simp [h1],h2⟩
  ·exact .inl rfl
theorem Ko:∀ {P:List (Int×Int)} {cur a b:Int},a≤b→(∀ p,p∈P→p.1≤a∨b<p.1)→K8 cur P b=K8 cur P a
 |[],_,_,_,_,_=>rfl
 |(d,v)::r,cur,a,b,hab,h=>by
  have h1:=h (d,v) (by simp)
  simp only at h1
  rw [K8,K8]
  rcases h1 with h1|h1
  ·rw [if_pos (by omega),if_pos h1,Ko hab (λp hp=>h p (by simp [hp]))]
  ·rw [if_neg (by omega),if_neg (by omega)]
theorem Uw:∀ {P:List (Int×Int)} {cur day:Int} (k:Nat),k≤P.length→(∀ j,j<k→(P.getD j (0,0)).1≤day)→(∀ j,k≤j→j<P.length→day<(P.getD j (0,0)).1)→K8 cur P day=if k=0 then cur else (P.getD (k-1) (0,0)).2
 |[],cur,day,k,hk,_,_=>by simp at hk;subst hk;rfl
 |(d,v)::r,cur,day,0,hk,h1,h2=>by
  have:=h2 0 (Nat.le_refl _) (by simp)
  rw [K8,if_neg (by simpa using this)];rfl
 |(d,v)::r,cur,day,k+1,hk,h1,h2=>by
  have:=h1 0 (by omega)
  rw [K8,if_pos (by simpa using this),Uw k (by simpa using hk) (λj hj=>by simpa using h1 (j+1) (by omega)) (λj hj hl=>by simpa using h2 (j+1) (by omega) (by simpa using hl))]
  cases k with
  |zero=>simp
  |succ k=>simp
inductive tu (g:Int→Int):Int→Int→List ((Int×Int)×Int)→Prop
 |nil (a:Int):tu g a a []
 |cons {a b c:Int} {l:List ((Int×Int)×Int)} (h:a<b) (hg:∀ d,a≤d→d<b→g d=g a) (hl:tu g b c l):tu g a c (((a,b),g a)::l)
theorem Mc {P:List (Int×Int)} {to:Int}:∀ {r:List Int} {fr:Int},fr<to→r.Pairwise (·<·)→(∀ d,d∈P.map (·.1)→d≤fr∨d∈r)→tu (Dq P) fr to (Mh (Dq P) to fr r)
 |[],fr,h,_,hr=>by
  refine .cons h (λd h1 h2=>Ko h1 λp hp=>?_) (.nil _)
  rcases hr p.1 (List.mem_map.2 ⟨p,hp,rfl⟩) with h3|h3
  ·exact .inl h3
  ·simp at h3
 |d::r,fr,h,hp,hr=>by
  obtain ⟨p1,p2⟩:=List.pairwise_cons.1 hp
  rw [Mh]
  split
  ·rename_i h3
   rcases h3 with h3|h3
   ·refine Mc h p2 (λx hx=>?_)
    rcases hr x hx with h4|h4
    ·exact .inl h4
    ·rcases List.mem_cons.1 h4 with rfl|h4
     ·exact .inl h3
     ·exact .inr h4
   ·
    have key:∀ (r':List Int),(∀ x,x∈r'→x≥to)→Mh (Dq P) to fr r'=[((fr,to),Dq P fr)]:=by
     intro r'
     induction r' with
     |nil=>intro _;rfl
     |cons x r' ih=>intro hx;rw [Mh,if_pos (.inr (hx x (by simp))),ih λy hy=>hx y (by simp [hy])]
    rw [key r λx hx=>by have:=p1 x hx;omega]
    refine .cons h (λx h1 h2=>Ko h1 λp hp=>?_) (.nil _)
    rcases hr p.1 (List.mem_map.2 ⟨p,hp,rfl⟩) with h4|h4
    ·exact .inl h4
    ·rcases List.mem_cons.1 h4 with h5|h4
     ·exact .inr (by omega)
     ·have:=p1 _ h4;exact .inr (by omega)
  ·rename_i h3
   refine .cons (by omega) (λx h1 h2=>Ko h1 λp hp=>?_) (Mc (by omega) p2 λx hx=>?_)
   ·rcases hr p.1 (List.mem_map.2 ⟨p,hp,rfl⟩) with h4|h4
    ·exact .inl h4
    ·rcases List.mem_cons.1 h4 with h5|h4
     ·exact .inr (by omega)
     ·have:=p1 _ h4;exact .inr (by omega)
   ·rcases hr x hx with h4|h4
    ·exact .inl (by omega)
    ·rcases List.mem_cons.1 h4 with rfl|h4
     ·exact .inl (Int.le_refl _)
     ·exact .inr h4
theorem tu.le {g:Int→Int} {a b:Int} {l:List ((Int×Int)×Int)} (h:tu g a b l):a≤b:=by
 induction h with
 |nil=>exact Int.le_refl _
 |cons h _ _ ih=>omega
theorem ny {g:Int→Int} {a b:Int} {l:List ((Int×Int)×Int)} (h:tu g a b l):∀ (sum all:Int),0≤all→all≤4000000000000000000 →
  Nn sum all l=if all+F6 (λd=>max (g d) (-(g d))) a (b-a).toNat>4000000000000000000 then (0,5) else (sum+F6 g a (b-a).toNat,0):=by
 induction h with
 |nil a=>intro sum all h1 h2;simp [Nn,F6];omega
 |@cons a b c l hab hg hl ih =>
  intro sum all h1 h2
  have hbc:=hl.le
  obtain ⟨n,hn⟩:∃ n:Nat,b-a=(n:Int):=⟨(b-a).toNat,by omega⟩
  obtain ⟨m,hm⟩:∃ m:Nat,c-b=(m:Int):=⟨(c-b).toNat,by omega⟩
  have e1:(c-a).toNat=n+m:=by omega
  have e2:(c-b).toNat=m:=by omega
  have eb:b=a+(n:Int):=by omega
  have s1:F6 g a n=n*g a:=Lh n a λd h3 h4=>hg d h3 (by omega)
  have s2:F6 (λd=>max (g d) (-(g d))) a n=n*max (g a) (-(g a)):=Lh n a λd h3 h4=>by rw [hg d h3 (by omega)]
  have s3:0≤F6 (λd=>max (g d) (-(g d))) b m:=No m b λd _ _=>by omega
  have hn0:0<(n:Int):=by omega
  rw [e2] at ih
  rw [e1,Ql,Ql,s1,s2,←eb,Nn,hn]
  have hq:max (g a) (-(g a))>(4000000000000000000-all) / (n:Int)↔all+n*max (g a) (-(g a))>4000000000000000000:=by
   have:=Int.le_ediv_iff_mul_le (a:=max (g a) (-(g a))) (b:=4000000000000000000-all) hn0
   rw [Int.mul_comm] at this
   omega
  have hpos:0≤(n:Int)*max (g a) (-(g a)):=Int.mul_nonneg (by omega) (by omega)
  by_cases hb:max (g a) (-(g a))>(4000000000000000000-all) / (n:Int)
  ·rw [if_pos hb,if_pos (by have:=hq.1 hb;omega)]
  ·have hb':=mt hq.2 hb
   rw [if_neg hb,ih _ _ (by omega) (by omega)]
   have e3:all+↑n*max (g a) (-g a)+F6 (λd=>max (g d) (-g d)) b m=all+(↑n*max (g a) (-g a)+F6 (λd=>max (g d) (-g d)) b m):=by omega
   have e4:sum+↑n*g a+F6 g b m=sum+(↑n*g a+F6 g b m):=by omega
   rw [e3,e4]
theorem ve (P:List (Int×Int)) (a b:Int):H6 P a b=if O0 0 0 P&&Sc a b then
  (if F6 (λd=>max (Dq P d) (-(Dq P d))) a (b-a).toNat>4000000000000000000 then (0,5) else (F6 (Dq P) a (b-a).toNat,0)) else (0,1):=by
 unfold H6
 split
 ·rename_i h
  simp only [Bool.and_eq_true,Sc,decide_eq_true_eq] at h
  obtain ⟨-,i2⟩:=M7 h.1
  rw [ny (Mc (by omega) (List.pairwise_map.2 i2) λd hd=>.inr hd) 0 0 (by omega) (by omega),Int.zero_add,Int.zero_add]
 ·rfl
theorem Qc:∀ {P:List (Int×Int)} {d0 v0 d v:Int},O0 d0 v0 (P++[(d,v)])=(O0 d0 v0 P&&!(decide (d≤(P.getD (P.length-1) (d0,v0)).1) || decide (d>292194) || (v == (P.getD (P.length-1) (d0,v0)).2) || !(Lm v)))
 |[],d0,v0,d,v=>by simp [O0]
 |(a,b)::P,d0,v0,d,v=>by
  rw [List.cons_append,O0,O0,Qc (P:=P),Bool.and_assoc]
  have e:((a,b)::P).getD (((a,b)::P).length-1) (d0,v0)=P.getD (P.length-1) (a,b):=by
   cases P with
   |nil=>rfl
   |cons p P=>simp [List.getD_eq_getElem?_getD]
  rw [e]
theorem Kg:∀ {P:List (Int×Int)} {cur d v day:Int},(∀ p,p∈P→p.1<d)→K8 cur (P++[(d,v)]) day=if d≤day then v else K8 cur P day
 |[],cur,d,v,day,_=>by simp [K8]
 |(a,b)::P,cur,d,v,day,h=>by
  have h1:=h (a,b) (by simp)
  simp only at h1
  rw [List.cons_append,K8,K8,Kg (λp hp=>h p (by simp [hp]))]
  by_cases h2:d≤day
  ·rw [if_pos h2,if_pos h2,if_pos (by omega)]
  ·rw [if_neg h2,if_neg h2]
def Gw (P:List (Int×Int)) (day:Int):List (Int×Int):=if 0<P.length∧(P.getD (P.length-1) (0,0)).1=day then P.take (P.length-1) else P
def Sq (P:List (Int×Int)) (day v:Int):List (Int×Int):=if v≠(P.getD (P.length-1) (0,0)).2∧day≤292194 then P++[(day,v)] else P
def Au (P:List (Int×Int)) (day v:Int):List (Int×Int):=Sq (Gw P day) day v
theorem U8 {α:Type} (l:List α):l=[]∨∃ m x,l=m++[x]:=by
 rcases List.eq_nil_or_concat l with h|⟨m,x,h⟩
 ·exact .inl h
 ·exact .inr ⟨m,x,by simpa using h⟩
theorem ly {P:List (Int×Int)} {day v:Int} (h:O0 0 0 P=true) (hd:∀ p,p∈P→p.1<day) (h1:1≤day) (hv:Lm v=true) :
  O0 0 0 (Sq P day v)=true∧(∀ p,p∈Sq P day v→p.1≤day)∧∀ d,d≤292194→Dq (Sq P day v) d=if d<day then Dq P d else v:=by
 have hl:(P.getD (P.length-1) (0,0)).1<day:=by
  rcases U8 P with rfl|⟨m,x,rfl⟩
  ·simp;omega
  ·simpa [List.getD_eq_getElem?_getD] using hd x (by simp)
 have hlast:∀ d,day≤d→Dq P d=(P.getD (P.length-1) (0,0)).2:=λd h2=>by
  rcases U8 P with rfl|⟨m,x,rfl⟩
  ·rfl
  ·have hx:=hd x (by simp)
   have hm:∀ p,p∈m→p.1<x.1:=λp hp=>(List.pairwise_append.1 (M7 h).2).2.2 p hp x (by simp)
   have:=Kg (P:=m) (cur:=0) (d:=x.1) (v:=x.2) (day:=d) hm
   rw [Dq,this,if_pos (by omega)]
   simp [List.getD_eq_getElem?_getD]
 unfold Sq
 split
 ·rename_i hc
  refine ⟨?_,λp hp=>?_,λd h2=>?_⟩
  ·rw [Qc,h,hv]
   have a1:decide (day≤(P.getD (P.length-1) (0,0)).1)=false:=decide_eq_false (by omega)
   have a2:decide (day>292194)=false:=decide_eq_false (by omega)
   have a3:(v == (P.getD (P.length-1) (0,0)).2)=false:=by simpa using hc.1
   rw [a1,a2,a3];rfl
  ·rcases List.mem_append.1 hp with h3|h3
   ·have:=hd p h3;omega
   ·simp at h3;subst h3;exact Int.le_refl _
  ·rw [Dq,Kg hd]
   by_cases h3:d<day
   ·rw [if_pos h3,if_neg (by omega)];rfl
   ·rw [if_neg h3,if_pos (by omega)]
 ·rename_i hc
  refine ⟨h,λp hp=>by have:=hd p hp;omega,λd h2=>?_⟩
  by_cases h3:d<day
  ·rw [if_pos h3]
  ·rw [if_neg h3,hlast d (by omega)]
   by_cases h4:v=(P.getD (P.length-1) (0,0)).2
   ·exact h4.symm
   ·exact absurd ⟨h4,by omega⟩ hc
theorem sq {P:List (Int×Int)} {day:Int} (h:O0 0 0 P=true) (hd:∀ p,p∈P→p.1≤day):O0 0 0 (Gw P day)=true∧(∀ p,p∈Gw P day→p.1<day)∧∀ d,d<day→Dq (Gw P day) d=Dq P d:=by
 rcases U8 P with rfl|⟨m,x,rfl⟩
 ·exact ⟨h,λp hp=>by simp [Gw] at hp,λd _=>rfl⟩
 ·have hm:∀ p,p∈m→p.1<x.1:=λp hp=>(List.pairwise_append.1 (M7 h).2).2.2 p hp x (by simp)
  have hx:=hd x (by simp)
  have e1:((m++[x]).getD ((m++[x]).length-1) (0,0))=x:=by simp [List.getD_eq_getElem?_getD]
  have e2:(m++[x]).take ((m++[x]).length-1)=m:=by simp
  rw [Gw,e1,e2]
  split
  ·rename_i hc
   have:=Qc (P:=m) (d0:=0) (v0:=0) (d:=x.1) (v:=x.2)
   rw [h] at this
   refine ⟨?_,λp hp=>by have:=hm p hp;omega,λd h2=>?_⟩
   ·simp only [Bool.true_eq,Bool.and_eq_true] at this
    exact this.1
   ·rw [Dq,Dq,Kg hm,if_neg (by omega)]
  ·rename_i hc
   have hne:x.1≠day:=λe=>hc ⟨by simp,e⟩
   refine ⟨h,λp hp=>?_,λd _=>rfl⟩
   rcases List.mem_append.1 hp with h3|h3
   ·have:=hm p h3;omega
   ·simp at h3;subst h3;omega
theorem Zb {P:List (Int×Int)} {day v:Int} (h:O0 0 0 P=true) (hd:∀ p,p∈P→p.1≤day) (h1:1≤day) (hv:Lm v=true) :
  O0 0 0 (Au P day v)=true∧(∀ p,p∈Au P day v→p.1≤day)∧∀ d,d≤292194→Dq (Au P day v) d=if d<day then Dq P d else v:=by
 obtain ⟨a1,a2,a3⟩:=sq h hd
 obtain ⟨b1,b2,b3⟩:=ly a1 a2 h1 hv
 refine ⟨b1,b2,λd h2=>?_⟩
 rw [Au,b3 d h2]
 split
 ·rename_i h3;exact a3 d h3
 ·rfl
def Iq (s:Sl) (e:Int):Bool:=(decide (s.sf≥e)&&(decide (s.sf<s.st)&&decide (s.st≤292195)))&&(decide (s.yr≥0)&&decide (s.yr≤4000000000000000000))
def Ly:List (Int×Int)→Int→List Sl→Option (List (Int×Int))
 |P,_,[]=>some P
 |P,e,s::r=>if Iq s e=true then Ly (Au (Au P s.sf s.yr) s.st 0) s.st r else none
def Oa (l:List Sl):Option (List (Int×Int)):=if l.length>2000 then none else Ly [] 1 l
def br (l:List Sl) (d:Int):Int:=match l.find? (λs=>decide (s.sf≤d)&&decide (d<s.st)) with|some s=>s.yr|none=>0
theorem Qh {s:Sl} {e:Int}:Iq s e=true↔e≤s.sf∧s.sf<s.st∧s.st≤292195∧0≤s.yr∧s.yr≤4000000000000000000:=by
 simp only [Iq,Bool.and_eq_true,decide_eq_true_eq];omega
theorem Sx (s:Sl) (l:List Sl) (d:Int):br (s::l) d=if s.sf≤d∧d<s.st then s.yr else br l d:=by
 unfold br
 rw [List.find?_cons]
 by_cases h:s.sf≤d∧d<s.st
 ·rw [if_pos h,decide_eq_true h.1,decide_eq_true h.2];rfl
 ·have e1:(decide (s.sf≤d)&&decide (d<s.st))=false:=by
   rw [Bool.and_eq_false_iff,decide_eq_false_iff_not,decide_eq_false_iff_not];omega
  rw [if_neg h,e1]
inductive zg:Int→List Sl→Prop
 |nil (e:Int):zg e []
 |cons {e:Int} {s:Sl} {l:List Sl} (h:Iq s e=true) (hl:zg s.st l):zg e (s::l)
theorem zg.yr {e d:Int} {l:List Sl} (h:zg e l) (hd:d<e):br l d=0:=by
 induction h generalizing d with
 |nil=>rfl
 |cons h _ ih =>
  have:=Qh.1 h
  rw [Sx,if_neg (by omega)]
  exact ih (by omega)
theorem Zl:∀ {l:List Sl} {P Q:List (Int×Int)} {e:Int},Ly P e l=some Q→1≤e→O0 0 0 P=true→(∀ p,p∈P→p.1≤e)→(∀ d,e≤d→d≤292194→Dq P d=0) →
  zg e l∧O0 0 0 Q=true∧∀ d,d≤292194→Dq Q d=if d<e then Dq P d else br l d
 |[],P,Q,e,h,h1,h2,h3,h4=>by
  injection h with h;subst h
  refine ⟨.nil _,h2,λd hd=>?_⟩
  split
  ·rfl
  ·exact h4 d (by omega) hd
 |s::l,P,Q,e,h,h1,h2,h3,h4=>by
  rw [Ly] at h
  split at h
  ·rename_i hf
   have hf':=Qh.1 hf
   obtain ⟨a1,a2,a3⟩:=Zb (v:=s.yr) h2 (λp hp=>by have:=h3 p hp;omega:∀ p,p∈P→p.1≤s.sf) (by omega) (by simp only [Lm,Bool.and_eq_true,decide_eq_true_eq];omega)
   obtain ⟨b1,b2,b3⟩:=Zb (v:=0) a1 (λp hp=>by have:=a2 p hp;omega:∀ p,p∈Au P s.sf s.yr→p.1≤s.st) (by omega) rfl
   obtain ⟨c1,c2,c3⟩:=Zl h (by omega) b1 b2 (λd g1 g2=>by rw [b3 d g2,if_neg (by omega)])
   refine ⟨.cons hf c1,c2,λd hd=>?_⟩
   rw [c3 d hd,b3 d hd,a3 d hd,Sx]
   by_cases g1:d<e
   ·rw [if_pos (by omega),if_pos (by omega),if_pos (by omega),if_pos g1]
   ·rw [if_neg g1]
    by_cases g2:d<s.sf
    ·rw [if_pos (by omega),if_pos (by omega),if_pos g2,if_neg (by omega),h4 d (by omega) hd]
     exact (c1.yr (by omega)).symm
    ·by_cases g3:d<s.st
     ·rw [if_pos g3,if_pos g3,if_neg g2,if_pos ⟨by omega,g3⟩]
     ·rw [if_neg g3,if_neg (by omega)]
  ·cases h
theorem Zn {l:List Sl} {P:List (Int×Int)} (h:Oa l=some P):zg 1 l∧l.length≤2000∧O0 0 0 P=true∧∀ d,1≤d→d≤292194→Dq P d=br l d:=by
 unfold Oa at h
 split at h
 ·cases h
 ·obtain ⟨h1,h2,h3⟩:=Zl h (by omega) rfl (λp hp=>by simp at hp) (λd _ _=>rfl)
  exact ⟨h1,by omega,h2,λd g1 g2=>by rw [h3 d g2,if_neg (by omega)]⟩
structure Qp where
 gr:Int
 sh:Int
 bc:Int
 op:Bool
def gx (n:Int):Int:=IntKind.i64.wrap n
def G7 (q:Qp) (a:Ac):Qp:=
 if a.kd=1 then { q with gr:=a.am } else if a.kd=2 then { q with sh:=gx (q.sh+a.am) } else if a.kd=3 then { q with bc:=gx (q.bc+a.am) }
 else if a.kd=4 then { q with op:=false } else if a.kd=5 then { q with op:=true } else q
def Bm (l:List Ac):Qp:=l.foldl G7 ⟨0,0,0,true⟩
def Ub (n f t:Int):Bool:=decide (n≥f)&&decide (n≤t)
def Rz (a:Ac):Int:=if ((a.kd == 4) || (a.kd == 5))=true then 0 else 1000000000000000
def Fz (a:Ac):Bool:=Ub a.bk 1 292194&&Ub a.kd 1 5&&Ub a.am 0 (Rz a)
def Hr (c:Cm) (p:List Ac):Int:=match p.getLast? with
 |some a=>a.bk
 |none=>c.bk
def Wb (q:Qp) (a:Ac):Bool:=(a.kd == 2)&&decide (a.am>IntKind.i64.wrap (1000000000000000-q.sh)) || (a.kd == 3)&&decide (a.am>IntKind.i64.wrap (1000000000000000-q.bc))
def Ir (c:Cm) (p:List Ac) (a:Ac):Int:=
 if Fz a=false then 1 else if 2000≤p.length then 2 else if a.bk<Hr c p then 4 else if ((Bm p).op == (a.kd == 5))=true then 10 else if Wb (Bm p) a=true then 5 else 0
def Gx (c:Cm):List Ac→List Ac→Bool
 |_,[]=>true
 |p,a::r=>decide (Ir c p a=0)&&Gx c (p++[a]) r
def Sw (f:Fi):Bool:=Gx f.cl [] f.ac
theorem ri {c:Cm} {p:List Ac} {a:Ac} (h:Ir c p a=0):Fz a=true∧p.length<2000∧Hr c p≤a.bk∧Wb (Bm p) a=false:=by
 unfold Ir at h
 split at h
 ·cases h
 ·split at h
  ·cases h
  ·split at h
   ·cases h
   ·split at h
    ·cases h
    ·split at h
     ·cases h
     ·rename_i h1 h2 h3 h4 h5
      exact ⟨by simpa using h1,by omega,by omega,by simpa using h5⟩
theorem Sy {c:Cm}:∀ (A B p:List Ac),Gx c p (A++B)=(Gx c p A&&Gx c (p++A) B)
 |[],B,p=>by simp [Gx]
 |a::A,B,p=>by
  rw [List.cons_append,Gx,Gx,Sy A B,Bool.and_assoc,List.append_assoc];rfl
theorem Yi {c:Cm} {p A:List Ac} {a:Ac} (h:Gx c p (A++[a])=true):Gx c p A=true∧Ir c (p++A) a=0:=by
 rw [Sy,Bool.and_eq_true] at h
 refine ⟨h.1,?_⟩
 have:=h.2
 simp only [Gx,Bool.and_true,decide_eq_true_eq] at this
 exact this
structure mz (c:Cm) (l:List Ac):Prop where
 rt:∀ a,a∈l→Fz a=true
 bk:∀ a,a∈l→c.bk≤a.bk∧a.bk≤Hr c l
 lo:c.bk≤Hr c l
 srt:l.Pairwise (λa b=>a.bk≤b.bk)
 sh:0≤(Bm l).sh∧(Bm l).sh≤1000000000000000
 bc:0≤(Bm l).bc∧(Bm l).bc≤1000000000000000
 eq:(Bm l).sh=((l.filter λa=>decide (a.kd=2)).map (·.am)).sum
theorem R5 {a:Ac}:Fz a=true↔(1≤a.bk∧a.bk≤292194)∧(1≤a.kd∧a.kd≤5)∧0≤a.am∧a.am≤Rz a:=by
 simp only [Fz,Ub,Bool.and_eq_true,decide_eq_true_eq,and_assoc,ge_iff_le]
theorem lx (a:Ac):Rz a≤1000000000000000:=by unfold Rz;split<;>omega
theorem Kl {a:Ac} (h:Fz a=true):0≤a.am∧a.am≤1000000000000000:=by
 obtain ⟨-,-,h1,h2⟩:=R5.1 h
 have:=lx a
 omega
theorem Xj {n:Int} (h:-9223372036854775808≤n∧n≤9223372036854775807):gx n=n:=wI (by omega)
theorem Pq (c:Cm) (l:List Ac) (a:Ac):Hr c (l++[a])=a.bk:=by simp [Hr]
theorem Ku (l:List Ac) (a:Ac):Bm (l++[a])=G7 (Bm l) a:=by simp [Bm]
theorem Zs (c:Cm):∀ (n:Nat) (l:List Ac),l.length=n→Gx c [] l=true→mz c l
 |0,l,h,_=>by
  rw [List.length_eq_zero_iff] at h;subst h
  exact ⟨λa ha=>by simp at ha,λa ha=>by simp at ha,Int.le_refl _,List.Pairwise.nil,by simp [Bm],by simp [Bm],by simp [Bm]⟩
 |n+1,l,h,hm=>by
  obtain ⟨A,a,rfl⟩:∃ A a,l=A++[a]:=by
   rcases List.eq_nil_or_concat l with rfl|⟨m,x,rfl⟩
   ·simp at h
   ·exact ⟨m,x,by simp⟩
  obtain ⟨h1,h2⟩:=Yi hm
  rw [List.nil_append] at h2
  obtain ⟨r1,r2,r3,r4⟩:=ri h2
  have ih:=Zs c n A (by simpa using h) h1
  have ha:=Kl r1
  have hs:=ih.sh
  have hb:=ih.bc
  have he:=ih.eq
  have hlo:=ih.lo
  have hov:(a.kd=2→a.am≤1000000000000000-(Bm A).sh)∧(a.kd=3→a.am≤1000000000000000-(Bm A).bc):=by
   unfold Wb at r4
   rw [wI (by omega),wI (by omega)] at r4
   simp only [Bool.or_eq_false_iff,Bool.and_eq_false_iff,decide_eq_false_iff_not,beq_eq_false_iff_ne] at r4
   omega
  refine ⟨λx hx=>?_,λx hx=>?_,by rw [Pq];omega,?_,?_,?_,?_⟩
  ·rcases List.mem_append.1 hx with hx|hx
   ·exact ih.rt x hx
   ·rw [List.mem_singleton.1 hx];exact r1
  ·rw [Pq]
   rcases List.mem_append.1 hx with hx|hx
   ·have:=ih.bk x hx;omega
   ·rw [List.mem_singleton.1 hx];omega
  ·rw [List.pairwise_append]
   refine ⟨ih.srt,List.pairwise_singleton _ _,λx hx y hy=>?_⟩
   rw [List.mem_singleton.1 hy]
   have:=ih.bk x hx;omega
  ·rw [Ku,G7]
   by_cases k1:a.kd=1
   ·rw [if_pos k1];exact hs
   ·rw [if_neg k1]
    by_cases k2:a.kd=2
    ·rw [if_pos k2];simp only;rw [Xj (by omega)];omega
    ·rw [if_neg k2]
     split
     ·exact hs
     ·split
      ·exact hs
      ·split<;>exact hs
  ·rw [Ku,G7]
   by_cases k1:a.kd=1
   ·rw [if_pos k1];exact hb
   ·rw [if_neg k1]
    by_cases k2:a.kd=2
    ·rw [if_pos k2];exact hb
    ·rw [if_neg k2]
     by_cases k3:a.kd=3
     ·rw [if_pos k3];simp only;rw [Xj (by omega)];omega
     ·rw [if_neg k3]
      split
      ·exact hb
      ·split<;>exact hb
  ·rw [Ku,G7,List.filter_append,List.map_append,List.sum_append,←he]
   by_cases k2:a.kd=2
   ·rw [if_neg (by omega),if_pos k2];simp only;rw [Xj (by omega)];simp [k2]
   ·have e:([a].filter λa=>decide (a.kd=2))=[]:=by simp [k2]
    rw [e,if_neg k2]
    simp only [List.map_nil,List.sum_nil,Int.add_zero]
    split
    ·rfl
    ·split
     ·rfl
     ·split
      ·rfl
      ·split<;>rfl
def Tv (c:Cm):Bool:=(Ub c.id 1 1000000000&&Ub c.po 1 1000000000&&Ub c.ev 0 1000000000)&&(Ub c.lo 1 292194&&Ub c.bk 1 292194)&&Ub c.pe 0 7
def qd (c:Cv) (f:Fi):Bool:=!(Tv f.cl) || (f.cl.pe != c.pe) || !(Sw f)
def R3 (c:Cv) (l:List Fi):Bool:=E2 c&&!(l.any (qd c))
def Dl:List Fi→Nat
 |[]=>0
 |f::r=>f.ac.length+Dl r
def Cb (c:Cv) (l:List Fi):Int:=if R3 c l=false then 1 else if 2000<l.length∨2000<Dl l then 2 else 0
structure H9 (c:Cv) (l:List Fi):Prop where
 cv:E2 c=true
 fl:∀ f,f∈l→qd c f=false
 n:l.length≤2000
 a:Dl l≤2000
theorem P8 {c:Cv} {l:List Fi} (h:Cb c l=0):H9 c l:=by
 unfold Cb at h
 split at h
 ·cases h
 ·split at h
  ·cases h
  ·rename_i h1 h2
   have h3:R3 c l=true:=by simpa using h1
   rw [R3,Bool.and_eq_true,Bool.not_eq_true',List.any_eq_false] at h3
   exact ⟨h3.1,λf hf=>by simpa using h3.2 f hf,by omega,by omega⟩
theorem kx {c:Cv} {f:Fi}:qd c f=false↔Tv f.cl=true∧f.cl.pe=c.pe∧Sw f=true:=by
 simp only [qd,Bool.or_eq_false_iff,Bool.not_eq_false',bne_eq_false_iff_eq,and_assoc]
end Go.Proofs.YtakohhkgeeoniaaGreat
end
section
namespace Go.Proofs.YtakohhkgeeoniaaGreat
open Go.Bx
section
variable {X:Type} (d:X)
def Gb (l:List X) (a b n:Nat):List X:=(List.range l.length).map λm=>if a≤m∧m<a+n then l.getD (m-a+b) d else if b≤m∧m<b+n then l.getD (m-b+a) d else l.getD m d
theorem Fv (l:List X) (a b n:Nat):(Gb d l a b n).length=l.length:=by simp [Gb]
theorem If {l:List X} {a b n m:Nat} (h:m<l.length):(Gb d l a b n).getD m d=if a≤m∧m<a+n then l.getD (m-a+b) d else if b≤m∧m<b+n then l.getD (m-b+a) d else l.getD m d:=by
 simp [Gb,List.getD_eq_getElem?_getD,h]
theorem R0 {l m:List X} (h:l.length=m.length) (hg:∀ i,i<l.length→l.getD i d=m.getD i d):l=m:=by
 apply List.ext_getElem h
 intro i h1 h2
 have:=hg i h1
 simpa [List.getD_eq_getElem?_getD,h1,h2] using this
theorem S4 (l:List X) (a b:Nat):Gb d l a b 0=l:=by
 refine R0 d (Fv _ _ _ _ _) λi hi=>?_
 rw [Fv] at hi
 rw [If d hi,if_neg (by omega),if_neg (by omega)]
theorem S5 {l:List X} {a b k:Nat} (h1:a+k<b) (h2:b+k<l.length):Rx d (Gb d l a b k) (a+k) (b+k)=Gb d l a b (k+1):=by
 have hl:=Fv d l a b k
 refine R0 d (by rw [Ot,hl,Fv]) λi hi=>?_
 rw [Ot,hl] at hi
 rw [U9 d (by rw [hl];omega) (by rw [hl];omega),If d (m:=a+k) (by omega),If d (m:=b+k) (by omega),If d (m:=i) hi,If d (m:=i) hi]
 by_cases e1:i=b+k
 ·subst e1
  rw [if_pos rfl,if_neg (show ¬ (a≤a+k∧a+k<a+k) by omega),if_neg (show ¬ (b≤a+k∧a+k<b+k) by omega),if_neg (by omega),if_pos (by omega)]
  congr 1;omega
 ·rw [if_neg e1]
  by_cases e2:i=a+k
  ·subst e2
   rw [if_pos rfl,if_neg (show ¬ (a≤b+k∧b+k<a+k) by omega),if_neg (show ¬ (b≤b+k∧b+k<b+k) by omega),if_pos (by omega)]
   congr 1;omega
  ·rw [if_neg e2]
   by_cases e3:a≤i∧i<a+k
   ·rw [if_pos e3,if_pos (by omega)]
   ·by_cases e4:b≤i∧i<b+k
    ·rw [if_neg e3,if_pos e4,if_neg (by omega),if_pos (by omega)]
    ·rw [if_neg e3,if_neg e4,if_neg (by omega),if_neg (by omega)]
theorem D8 (u v:List X) (i:Nat):(u++v).getD i d=if i<u.length then u.getD i d else v.getD (i-u.length) d:=by
 simp only [List.getD_eq_getElem?_getD,List.getElem?_append]
 split<;>rfl
theorem Hs (P U M W S:List X) (h:U.length=W.length) {a b:Nat} (ha:a=P.length) (hb:b=P.length+U.length+M.length):Gb d (P++(U++(M++(W++S)))) a b U.length=P++(W++(M++(U++S))):=by
 subst ha;subst hb
 refine R0 d (by rw [Fv];simp only [List.length_append];omega) λi hi=>?_
 rw [Fv] at hi
 rw [If d hi]
 simp only [D8]
 by_cases c1:i<P.length
 ·rw [if_neg (by omega),if_neg (by omega),if_pos c1,if_pos c1]
 ·by_cases c2:i<P.length+U.length
  ·rw [if_pos (by omega),if_neg (by omega),if_neg (by omega),if_neg (by omega),if_pos (by omega),if_neg c1,if_pos (by omega)]
   congr 1;omega
  ·by_cases c3:i<P.length+U.length+M.length
   ·rw [if_neg (by omega),if_neg (by omega),if_neg c1,if_neg (by omega),if_pos (by omega),if_neg c1,if_neg (by omega),if_pos (by omega)]
    congr 1;omega
   ·by_cases c4:i<P.length+U.length+M.length+W.length
    ·rw [if_neg (by omega),if_pos (by omega),if_neg (by omega),if_pos (by omega),if_neg c1,if_neg (by omega),if_neg (by omega),if_pos (by omega)]
     congr 1;omega
    ·rw [if_neg (by omega),if_neg (by omega),if_neg c1,if_neg (by omega),if_neg (by omega),if_neg (by omega),if_neg c1,if_neg (by omega),if_neg (by omega),if_neg (by omega)]
     congr 1;omega
end
section
variable {X:Type} {lt:X→X→Bool}
theorem Fh (d:X) (w:bq lt) {A B:List X} (hA:Ge lt A) (hB:Ge lt B) (i j:Nat) (hi:i≤A.length) (hj:j≤B.length)
  (h1:i<A.length→0<j→lt (B.getD (j-1) d) (A.getD i d)=true) (h2:0<i→j<B.length→lt (B.getD j d) (A.getD (i-1) d)=false) :
  Bt lt A B=Bt lt (A.take i) (B.take j)++Bt lt (A.drop i) (B.drop j):=by
 have gA:∀ k,(hk:k<A.length)→A.getD k d=A[k]:=λk hk=>by simp [List.getD_eq_getElem?_getD,hk]
 have gB:∀ k,(hk:k<B.length)→B.getD k d=B[k]:=λk hk=>by simp [List.getD_eq_getElem?_getD,hk]
 have le:∀ {L:List X} {p q:Nat} (hL:Ge lt L) (hp:p<L.length) (hq:q<L.length),p≤q→lt L[q] L[p]=false:=λ{L p q} hL hp hq hpq=>by
  rcases Nat.lt_or_eq_of_le hpq with h|h
  ·exact List.pairwise_iff_getElem.1 hL p q hp hq h
  ·subst h
   cases hx:lt L[p] L[p] with
   |false=>rfl
   |true=>have:=w.asy _ _ hx;rw [hx] at this;cases this
 conv=>lhs;rw [←List.take_append_drop i A,←List.take_append_drop j B]
 refine Gi lt _ _ _ _ (λb hb a ha=>?_) (λa ha b hb=>?_)
 ·obtain ⟨p,hp,rfl⟩:=List.getElem_of_mem hb
  obtain ⟨q,hq,rfl⟩:=List.getElem_of_mem ha
  simp only [List.length_take,List.length_drop] at hp hq
  rw [List.getElem_take,List.getElem_drop]
  have hh:=h1 (by omega) (by omega)
  rw [gA _ (by omega),gB _ (by omega)] at hh
  cases hx:lt B[p] A[i+q] with
  |true=>rfl
  |false =>
   have e1:=w.nt _ _ _ (le hB (p:=p) (q:=j-1) (by omega) (by omega) (by omega)) hx
   have e2:=w.nt _ _ _ e1 (le hA (p:=i) (q:=i+q) (by omega) (by omega) (by omega))
   rw [hh] at e2;cases e2
 ·obtain ⟨p,hp,rfl⟩:=List.getElem_of_mem ha
  obtain ⟨q,hq,rfl⟩:=List.getElem_of_mem hb
  simp only [List.length_take,List.length_drop] at hp hq
  rw [List.getElem_take,List.getElem_drop]
  have hh:=h2 (by omega) (by omega)
  rw [gA _ (by omega),gB _ (by omega)] at hh
  have e1:=w.nt _ _ _ (le hB (p:=j) (q:=j+q) (by omega) (by omega) (by omega)) hh
  exact w.nt _ _ _ e1 (le hA (p:=p) (q:=i-1) (by omega) (by omega) (by omega))
end
end Go.Proofs.YtakohhkgeeoniaaGreat
end
section
namespace Go.Proofs.YtakohhkgeeoniaaGreat
open Go.Bx
set_option maxRecDepth 10000
def Rn (a b:Int):Int:=if a<b then -1 else if b<a then 1 else 0
theorem xz (a b:Int):Aj Tryz.prog 90 [.d (.int .i64 a),.d (.int .i64 b)] [] (.d (.int .i64 (Rn a b))) [] []:=by
 refine qP Tryz.func90 λc hP hfn=>?_;simp only [A0,↓A3,seval]
 repeat' first|(refine tq hP (h:=⟨_,λ_=>by first|exact sNaN a|exact sNaN b,?_⟩);try simp only [A0,↓A3,seval])|refine ⟨λh=>?_,λh=>?_⟩|refine aX ?_|fail
 ·have h':=of_decide_eq_true h
  (refine rq ?_;first|exact ⟨⟩|simp [Rn,h'])
 ·have h':=of_decide_eq_true h
  have h2:¬ a<b:=by omega
  (refine rq ?_;first|exact ⟨⟩|simp only [Rn,if_neg h2,if_pos h'])
 ·rename_i h0
  have h':=of_decide_eq_false h
  have h2:=of_decide_eq_false h0
  (refine rq ?_;first|exact ⟨⟩|simp only [Rn,if_neg h2,if_neg h'])
def A9 (l:List Int):Go.Bx.Own:=.row 3 1 l.length (λi=>[.int .i64 (l.getD i 0)])
def Bk (g:Nat) (ds:List D):V:=.fn (.func g) [] [.mem ds]
def Bp (cf:Int→Int→Int) (a b:Int):Bool:=decide (cf a b<0)
structure U3 (g:Nat) (ds:List D) (cf:Int→Int→Int) (ok:Int→Prop):Prop where
 w:bq (Bp cf)
 c:∀ a b,ok a→ok b→Aj Tryz.prog g [.d (.int .i64 a),.d (.int .i64 b),.mem ds] [] (.d (.int .i64 (cf a b))) [] []
theorem Kb {u:List Int} {p:Int} {w:List Int} {i:Nat} (h:i=u.length):(u++p::w).getD i 0=p:=by subst h;exact Gu 0 u p w
theorem TR.gpw {c:B3} {b:Bool} {is:List I} {st:St} {acc:List Lg} {K:List Lg→St→Prop} {P:Program} (hP:c.P=P) {d:Option Nat} {s:Nat} {want gc:Bool} {x:X} {f:Nat} {first cap:List V} {xs:List X} {res:V} (hg:gOf st.env s want=some gc)
  (hx:gc=true→evV st x=.fn (.func f) first cap) (hS:gc=true→Aj P f (first++(evVs st xs++cap)) [] res [] []) (hsx:gc=true→evS true st x) (hs:gc=true→evSs true st xs)
  (h:El c b is (st.stp d { val:=.gd gc res,upd:=[],rd:=[],new:=[] }) (lgs b acc ⟨[],[]⟩) K):TR c b (⟨d,some (s,want),.callv x xs⟩::is) st acc K:=
 TR.cons { val:=.gd gc res,upd:=[],rd:=[],new:=[] } (Hk hg λe=>Fq (hx e) (by rw [hP];exact hS e) (hsx e) (hs e) (λk o h=>by simp at h) (by simp [keysO])) (λk hk=>by simp at hk) (C1 h)
theorem Bf.swz {e:Nat} {l l':List Int} {i j:Nat} {u v:Int} (hi:i<l.length) (hj:j<l.length) (hu:l.getD i 0=u) (hv:l.getD j 0=v) (h:l'=Rx 0 l i j) :
  Bf (.row e 1 l.length (λi'=>if i'=j then Db (if j=i then Db [.int .i64 u] 0 [.int .i64 v] else [.int .i64 v]) 0 [.int .i64 u] else if i'=i then Db [.int .i64 u] 0 [.int .i64 v] else [.int .i64 (l.getD i' 0)]))
   (.row e 1 l'.length (λi=>[.int .i64 (l'.getD i 0)])):=by
 subst h
 refine Bf.row (Ot _ _ _ _).symm λm hm=>?_
 rw [U9 0 hi hj m,hu,hv]
 by_cases e1:m=j
 ·subst e1;simp only [if_true];split<;>simp [Db]
 ·rw [if_neg e1,if_neg e1]
  by_cases e2:m=i
  ·subst e2;simp [Db]
  ·rw [if_neg e2,if_neg e2]
theorem Zo {g:Nat} {ds:List D} {cf:Int→Int→Int} {ok:Int→Prop} (hc:U3 g ds cf ok) (P M S:List Int) (hok:∀ x,x∈M→ok x) (hl:P.length+(M.length+S.length)≤4611686018427387904) :
  Aj Tryz.prog 181 [.osl 900,.d (.int .i64 P.length),.d (.int .i64 ((P.length+M.length:Nat):Int)),Bk g ds] [(900,A9 (P++(M++S)))] (.tup []) [(900,A9 (P++(srt (Bp cf) [] M++S)))] []:=by
 refine qO Tryz.func181 ?_
 intro c hP hfn
 have w1:IntKind.i64.wrap ((P.length:Int)+1)=((P.length+1:Nat):Int):=wS (by omega)
 simp only [A5,V.names,A4,A9,Bk,w1,A0,↓A3,seval]
 refine B4.loop (X:=Nat×List Int) (λx=>⟨[(0,.osl 900),(1,.d (.int .i64 P.length)),(2,.d (.int .i64 ((P.length+M.length:Nat):Int))),(3,Bk g ds),(8,.d (.int .i64 (x.1:Nat)))],[(900,A9 x.2)],[900]⟩)
  (λx=>∃ k,x.1=P.length+k∧1≤k∧(k≤M.length∨k=1)∧x.2=P++(srt (Bp cf) [] (M.take k)++(M.drop k++S))) (λx=>P.length+M.length-x.1) (P.length+1,P++(M++S)) ⟨1,rfl,Nat.le_refl _,.inr rfl,?_⟩ (Wk.of _ hfn rfl (by simp only [Bk,A7,A0,↓A3,seval]) (by simp only [A9,A7,A0,↓A3,seval])) ?_
 ·cases M with
  |nil=>rfl
  |cons a M=>simp [srt,Bt]
 rintro ⟨i,l⟩ ⟨k,hi,h1,hk,hL⟩
 simp only at hi hL
 by_cases hlt:k<M.length
 ·obtain ⟨e,hd,hg,hm,he⟩:=Ae hlt
  have oke:=hok e hm
  have d0:decide ((i:Int)<((P.length+M.length:Nat):Int))=true:=decide_eq_true (by omega)
  have tl:(srt (Bp cf) [] (M.take k)).length=k:=by rw [F1,List.length_take];simp;omega
  have okT:∀ x,x∈srt (Bp cf) [] (M.take k)→ok x:=λx hx=>hok x (List.mem_of_mem_take (by simpa using (Fo (Bp cf) (M.take k) []).mem_iff.1 hx))
  have hT2:srt (Bp cf) [] (M.take (k+1))=Bt (Bp cf) (srt (Bp cf) [] (M.take k)) [e]:=by
   rw [List.take_add_one,he,Oy];rfl
  simp only [A9,Bk,d0,A0,↓A3,seval]
  repeat' first|refine ⟨λh=>?_,λh=>?_⟩|refine aX ?_|fail
  refine B4.loop (X:=Nat×List Int) (λx=>⟨[(0,.osl 900),(1,.d (.int .i64 P.length)),(2,.d (.int .i64 ((P.length+M.length:Nat):Int))),(3,Bk g ds),(8,.d (.int .i64 (i:Nat))),(9,.d (.int .i64 (x.1:Nat)))],[(900,A9 x.2)],[900]⟩)
   (λx=>∃ A B,A++B=srt (Bp cf) [] (M.take k)∧(∀ b,b∈B→Bp cf e b=true)∧x.1=P.length+A.length∧x.2=P++(A++(e::(B++(M.drop (k+1)++S))))) (λx=>x.1) (i,l) ⟨_,[],List.append_nil _,λb hb=>by simp at hb,by rw [tl];exact hi,by rw [hL,hd];simp⟩ (Wk.of _ hfn rfl (by simp only [Bk,A7,A0,↓A3,seval]) (by simp only [A9,A7,A0,↓A3,seval])) ?_
  rintro ⟨j,r⟩ ⟨A,B,hAB,hB,hj,hr⟩
  simp only at hj hr
  have hlA:A.length+B.length=k:=by rw [←tl,←hAB,List.length_append]
  have hrl:r.length=P.length+(M.length+S.length):=by rw [hr];simp only [List.length_append,List.length_cons,List.length_drop];omega
  have gj:r.getD j 0=e:=by rw [hr,hj,←List.append_assoc];exact Kb (by simp)
  have bj:(0:Int)≤(j:Int)∧(j:Int)<(r.length:Int):=by omega
  have w2:IntKind.i64.wrap ((i:Int)+1)=((i+1:Nat):Int):=wS (by omega)
  by_cases hA:A.length=0
  ·have hA0:A=[]:=List.eq_nil_of_length_eq_zero hA
   subst hA0
   rw [List.nil_append] at hAB
   have hres:r=P++(srt (Bp cf) [] (M.take (k+1))++(M.drop (k+1)++S)):=by
    rw [hr,hT2,←hAB,Lp hB];simp
   have d1:decide ((j:Int)>(P.length:Int))=false:=decide_eq_false (by simp at hj;omega)
   simp only [A9,Bk,d1,w2,A0,↓A3,seval]
   refine TR.gpw (gc:=false) (first:=[]) (cap:=[]) (f:=0) (res:=.d (.int .i64 0)) hP rfl (λh=>by cases h) (λh=>by cases h) (λh=>by cases h) (λh=>by cases h) ?_
   simp only [w2,A0,↓A3,seval]
   repeat' first|refine ⟨λh=>?_,λh=>?_⟩|refine aX ?_|fail
   refine Al.on (i+1,r) ⟨k+1,by simp only;omega,by omega,.inl hlt,hres⟩ (by simp only;omega) (Wk.of _ hfn rfl (by simp only [Bk,A7,A0,↓A3,seval]) (by simp only [A9,A7,A0,↓A3,seval]))
  ·obtain ⟨A,x,rfl⟩:∃ A' x,A=A'++[x]:=by
    rcases List.eq_nil_or_concat A with h|⟨m,x,h⟩
    ·rw [h] at hA;exact absurd rfl hA
    ·exact ⟨m,x,by simpa using h⟩
   simp only [List.length_append,List.length_singleton] at hj hlA
   have d1:decide ((j:Int)>(P.length:Int))=true:=decide_eq_true (by omega)
   have e1:IntKind.i64.wrap ((j:Int)-1)=((j-1:Nat):Int):=by rw [wI (by omega)];omega
   have b1:(0:Int)≤((j-1:Nat):Int)∧((j-1:Nat):Int)<(r.length:Int):=by omega
   have g1:r.getD (j-1) 0=x:=by
    have:r=(P++A)++x::(e::(B++(M.drop (k+1)++S))):=by rw [hr];simp
    rw [this];exact Kb (by simp;omega)
   have okx:ok x:=okT x (by rw [←hAB];simp)
   have cc:=hc.c e x oke okx
   simp only [A9,Bk,d1,e1,gj,g1,A0,↓A3,seval]
   repeat' first|refine ⟨λh=>?_,λh=>?_⟩|refine aX ?_|fail
   refine TR.gpw (gc:=true) hP rfl (λ_=>rfl) (λ_=>cc) (by intro _;simp only [A0,↓A3,seval]) (by intro _;simp only [A0,↓A3,seval]) ?_
   simp only [e1,gj,g1,A0,↓A3,seval]
   repeat' first|refine ⟨λh=>?_,λh=>?_⟩|refine aX ?_|fail
   ·refine Al.on (j-1,Rx 0 r j (j-1)) ⟨A,x::B,by rw [←hAB];simp,λb hb=>?_,by simp only;omega,?_⟩ (by simp only;omega) (Wk.of _ hfn rfl (by simp only [Bk,A7,A0,↓A3,seval]) ?_)
    ·rcases List.mem_cons.1 hb with rfl|hb
     ·exact h
     ·exact hB b hb
    ·have:r=(P++A)++x::e::(B++(M.drop (k+1)++S)):=by rw [hr];simp
     simp only [this]
     rw [Kk 0 (P++A) x e _ (by simp;omega) (by simp;omega)];simp
    ·simp only [A9,A7,A0,↓A3,seval]
     exact Bf.swz (by omega) (by omega) gj g1 rfl
   ·have hlo:∀ a,a∈A++[x]→Bp cf e a=false:=λa ha=>by
     have hS:=C7 hc.w (M.take k) [] List.Pairwise.nil
     rw [←hAB] at hS
     have h8:Bp cf e x=false:=h
     rcases List.mem_append.1 ha with h9|h9
     ·have hS1:=(List.pairwise_append.1 (List.pairwise_append.1 hS).1).2.2 a h9 x (by simp)
      exact hc.w.nt e x a h8 hS1
     ·rw [List.mem_singleton.1 h9];exact h8
    refine Al.on (i+1,r) ⟨k+1,by simp only;omega,by omega,.inl hlt,?_⟩ (by simp only;omega) (Wk.of _ hfn rfl (by simp only [Bk,w2,A7,A0,↓A3,seval]) (by simp only [A9,A7,A0,↓A3,seval]))
    simp only
    rw [hr,hT2,←hAB,X5 hB hlo];simp
 ·have d0:decide ((i:Int)<((P.length+M.length:Nat):Int))=false:=decide_eq_false (by omega)
  have e1:M.take k=M:=List.take_of_length_le (by omega)
  have e2:M.drop k=[]:=List.drop_eq_nil_of_le (by omega)
  rw [e1,e2,List.nil_append] at hL
  simp only [A9,Bk,d0,A0,↓A3,seval]
  repeat' first|refine ⟨λh=>?_,λh=>?_⟩|refine aX ?_|fail
  refine Et (Wk.refl _ _) ?_
  simp only [hL,A7,A0,↓A3,seval]
end Go.Proofs.YtakohhkgeeoniaaGreat
end
