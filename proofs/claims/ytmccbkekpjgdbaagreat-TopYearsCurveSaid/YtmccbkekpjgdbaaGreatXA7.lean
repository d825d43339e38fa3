import Derived.Test.YtmccbkekpjgdbaaGreatXA6
set_option linter.unusedSimpArgs false
set_option linter.unusedVariables false
section
namespace Go.Proofs.YtmccbkekpjgdbaaGreat
open Go.Bx
set_option maxRecDepth 10000
structure Cv where
 pe:Int
 li:Int
 ag:Int
 de:Int
 sh:Int
deriving DecidableEq
instance:Inhabited Cv:=⟨⟨0,0,0,0,0⟩⟩
def cC (c:Cv):List V:=[.d (.int .i64 c.pe),.d (.int .i64 c.li),.d (.int .i64 c.ag),.d (.int .i64 c.de),.d (.int .i64 c.sh)]
def vC (c:Cv):V:=.ag (cC c)
def sdR (l:List Int):Nat→Bool
 |0=>true
 |k+1=>!(decide (l.getD (k+1) 0<l.getD k 0))&&sdR l k
theorem sNaN (a:Int):Ctr Tryz.prog 96 [.d (.int .i64 a)] [] (.d (.bool false)) [] []:=by
 refine qP Tryz.func96 fun c hP hfn=>?_;simp only [vcd,↓vcp,seval]
 (refine rq ?_;first|exact ⟨⟩|simp)
theorem sLess (a b:Int):Ctr Tryz.prog 104 [.d (.int .i64 a),.d (.int .i64 b)] [] (.d (.bool (decide (a<b)))) [] []:=by
 refine qP Tryz.func104 fun c hP hfn=>?_;simp only [vcd,↓vcp,seval]
 repeat' first|(refine tq hP (h:=⟨_,fun _=>by exact sNaN ..,?_⟩);try simp only [vcd,↓vcp,seval])|refine ⟨fun h=>?_,fun h=>?_⟩|refine aX ?_|fail
 (refine rq ?_;first|exact ⟨⟩|simp)
theorem sSorted (l:List Int) (hl:l.length≤9223372036854775807):Ctr Tryz.prog 97 [.d (slK .i64 l)] [] (.d (.bool (sdR l (l.length-1)))) [] []:=by
 refine qP Tryz.func97 fun c hP hfn=>?_;simp only [vcd,↓vcp,seval]
 refine vcC.loop (X:=Int) (fun x=>⟨[(0,.d (slK .i64 l)),(3,.d (.int .i64 x))],[],[]⟩)
  (fun x=>-1≤x∧x<l.length∧sdR l (l.length-1)=sdR l x.toNat) (fun x=>x.toNat) ((l.length:Int)-1) ⟨by omega,by omega,by congr 1;omega⟩ (Wk.of [] hfn rfl (by simp only [enb,vcd,↓vcp,seval];exact wI (by omega)) (by simp only [enb,vcd,↓vcp,seval])) ?_
 rintro x ⟨h0,h1,he⟩
 simp only [vcd,↓vcp,seval]
 refine ⟨fun h2=>?_,fun h2=>?_⟩
 ·have h2:=of_decide_eq_true h2
  have e1:IntKind.i64.wrap (x-1)=x-1:=wI (by omega)
  have e2:x.toNat=(x-1).toNat+1:=by omega
  rw [e2,sdR,←e2] at he
  simp only [e1]
  repeat' first|(refine tq hP (h:=⟨_,fun _=>by exact sLess ..,?_⟩);try simp only [e1,vcd,↓vcp,seval])|refine ⟨fun h=>?_,fun h=>?_⟩|refine aX ?_|fail
  ·(refine rq ?_;first|exact ⟨⟩|(rw [he,h];rfl))
  ·rw [h] at he
   exact lopK.on (x-1) ⟨by omega,by omega,by rw [he];rfl⟩ (by omega) (Wk.of [] hfn rfl (by simp only [enb,vcd,↓vcp,seval]) (by simp only [enb,vcd,↓vcp,seval]))
 ·have h2:=of_decide_eq_false h2
  have e2:x.toNat=0:=by omega
  rw [e2,sdR] at he
  (refine rq ?_;first|exact ⟨⟩|rw [he])
theorem sSorted' {full:Bool} {n:Nat} {ds:List D} {l:List Int} (h:LitI .i64 ds l) (hn:n=l.length) (hl:l.length≤9223372036854775807):Ctr Tryz.prog 97 [.d (.sl full 1 n (litRow 1 ds))] [] (.d (.bool (sdR l (l.length-1)))) [] []:=
 (sSorted l hl).arg ⟨h.vle hn,trivial⟩
def rightC (c:Cv):Bool:=decide (c.pe≥0)&&decide (c.pe<8)&&(decide (c.sh≥1)&&decide (c.sh≤10000))&&sdR [0,c.de,IntKind.i64.wrap (c.li-1),IntKind.i64.wrap (c.ag-1),999999999999999] 4&&decide (c.de<c.li)
theorem sCover (k:Cv):Ctr Tryz.prog 50 [vC k] [] (.d (.bool (rightC k))) [] []:=by
 refine qP Tryz.func50 fun c hP hfn=>?_;simp only [vC,cC,vcd,↓vcp,seval]
 repeat' first|(refine tq hP (h:=⟨_,fun _=>by exact sSorted' (by repeat constructor) (by rfl) (by simp),?_⟩);try simp only [vcd,↓vcp,seval])|refine ⟨fun h=>?_,fun h=>?_⟩|refine aX ?_|fail
 exact rr
structure Fine (k:Cv):Prop where
 pe:0≤k.pe∧k.pe<8
 sh:1≤k.sh∧k.sh≤10000
 de:0≤k.de∧k.de<k.li
 li:k.li≤k.ag
 ag:k.ag≤1000000000000000
theorem right_iff {k:Cv} (h1:I64 k.li) (h2:I64 k.ag):rightC k=true↔Fine k:=by
 unfold I64 at h1 h2
 simp only [rightC,sdR,Bool.and_eq_true,decide_eq_true_eq,IntKind.wrap_i64,List.getD_cons_succ,List.getD_cons_zero,Bool.not_eq_true',decide_eq_false_iff_not]
 constructor
 ·intro h
  exact ⟨by omega,by omega,by omega,by omega,by omega⟩
 ·rintro ⟨a,b,c,d,e⟩
  exact ⟨⟨⟨⟨by omega,by omega⟩,by omega,by omega⟩,by omega,by omega,by omega,by omega,trivial⟩,by omega⟩
structure Rk where
 kd:Int
 va:Int
 ag:Int
 zo:Int
deriving DecidableEq
instance:Inhabited Rk:=⟨⟨0,0,0,0⟩⟩
def cR (r:Rk):List V:=[.d (.int .i64 r.kd),.d (.int .i64 r.va),.d (.int .i64 r.ag),.d (.int .i64 r.zo)]
def vR (r:Rk):V:=.ag (cR r)
def rightR (r:Rk):Bool:=decide (0≤r.kd∧r.kd<4∧1≤r.va∧r.va≤1000000000000000∧0≤r.ag∧r.ag≤200∧0≤r.zo∧r.zo<100)
theorem rightR_iff {r:Rk}:rightR r=true↔0≤r.kd∧r.kd<4∧1≤r.va∧r.va≤1000000000000000∧0≤r.ag∧r.ag≤200∧0≤r.zo∧r.zo<100:=by simp only [rightR,decide_eq_true_eq]
theorem sRisk (r:Rk):Ctr Tryz.prog 114 [vR r] [] (.d (.bool (rightR r))) [] []:=by
 have hr:=@rightR_iff r
 refine qP Tryz.func114 fun c hP hfn=>?_;simp only [vR,cR,vcd,↓vcp,seval]
 (refine rq ?_;first|exact ⟨⟩|(rw [Bool.eq_iff_iff,hr];simp only [Bool.and_eq_true,decide_eq_true_eq];omega))
def facB (x:Int):Bool:=decide (0≤x∧x≤100000)
theorem facB_iff {x:Int}:facB x=true↔0≤x∧x≤100000:=by simp only [facB,decide_eq_true_eq]
def idxI (p:Int→Bool):Nat→List Int→Int
 |_,[]=>-1
 |k,x::r=>if p x=true then (k:Int) else idxI p (k+1) r
theorem idxI_any (p:Int→Bool):∀ (l:List Int) (k:Nat),decide (idxI p k l≥0)=l.any p
 |[],k=>by simp [idxI]
 |x::r,k=>by
  by_cases h:p x=true
  ·simp [idxI,h]
  ·simp [idxI,h];simpa using idxI_any p r (k+1)
theorem sIndexF (g:Nat) (p:Int→Bool) (hg:∀ x,Ctr Tryz.prog g [.d (.int .i64 x)] [] (.d (.bool (p x))) [] []) (l:List Int) (hl:l.length≤9223372036854775807):Ctr Tryz.prog 188 [.d (slK .i64 l),.fn (.func g) [] []] [] (.d (.int .i64 (idxI p 0 l))) [] []:=by
 refine qP Tryz.func188 fun c hP hfn=>?_;simp only [vcd,↓vcp,seval]
 refine vcC.loop (X:=Nat) (fun k=>⟨[(0,.d (slK .i64 l)),(1,.fn (.func g) [] []),(7,.d (.int .i64 l.length)),(8,.d (.int .i64 k))],[],[]⟩)
  (fun k=>k≤l.length∧idxI p 0 l=idxI p k (l.drop k)) (fun k=>l.length-k) 0 ⟨Nat.zero_le _,rfl⟩ (Wk.of [] hfn rfl (by (simp only [enb,vcd,↓vcp,seval])<;>(first|exact wS (by omega)|(rw [List.length_append];exact wS (by omega))|assumption)) (by simp only [enb,vcd,↓vcp,seval])) ?_
 rintro k ⟨hk,he⟩
 simp only [vcd,↓vcp,seval]
 refine ⟨fun h1=>?_,fun h1=>?_⟩
 ·have hlt:k<l.length:=by simpa using h1
  obtain ⟨x,hd,hg',-,-⟩:=drop_at hlt
  simp only [hg']
  rw [hd,idxI] at he
  repeat' first|(refine tq hP (h:=⟨_,fun _=>by exact hg x,?_⟩);try simp only [vcd,↓vcp,seval])|refine ⟨fun h=>?_,fun h=>?_⟩|refine aX ?_|fail
  ·(refine rq ?_;first|exact ⟨⟩|rw [he,if_pos h])
  ·refine lopK.on (k+1) ⟨hlt,?_⟩ (by omega) (Wk.of [] hfn rfl (by (simp only [enb,vcd,↓vcp,seval])<;>(first|exact wS (by omega)|(rw [List.length_append];exact wS (by omega))|assumption)) (by simp only [enb,vcd,↓vcp,seval]))
   rw [he,h];simp
 ·have hkl:k=l.length:=by simp at h1;omega
  rw [hkl] at he
  (refine rq ?_;first|exact ⟨⟩|simp [he,idxI])
theorem sContainsF (g:Nat) (p:Int→Bool) (hg:∀ x,Ctr Tryz.prog g [.d (.int .i64 x)] [] (.d (.bool (p x))) [] []) (l:List Int) (hl:l.length≤9223372036854775807):Ctr Tryz.prog 182 [.d (slK .i64 l),.fn (.func g) [] []] [] (.d (.bool (l.any p))) [] []:=by
 refine qP Tryz.func182 fun c hP hfn=>?_;simp only [vcd,↓vcp,seval]
 repeat' first|(refine tq hP (h:=⟨_,fun _=>by exact sIndexF g p hg l hl,?_⟩);try simp only [vcd,↓vcp,seval])|refine ⟨fun h=>?_,fun h=>?_⟩|refine aX ?_|fail
 (refine rq ?_;first|exact ⟨⟩|exact idxI_any p l 0)
theorem sFac1 (x:Int):Ctr Tryz.prog 183 [.d (.int .i64 x)] [] (.d (.bool (!(facB x)))) [] []:=by
 refine qP Tryz.func183 fun c hP hfn=>?_;simp only [vcd,↓vcp,seval]
 (refine rq ?_;first|exact ⟨⟩|(rw [Bool.eq_iff_iff];simp only [facB,Bool.or_eq_true,Bool.not_eq_true',decide_eq_true_eq,decide_eq_false_iff_not];omega))
theorem sFactors (l:List Int) (hl:l.length≤9223372036854775807):Ctr Tryz.prog 158 [.d (slK .i64 l)] [] (.d (.bool (l.all facB))) [] []:=by
 refine qP Tryz.func158 fun c hP hfn=>?_;simp only [vcd,↓vcp,seval]
 repeat' first|(refine tq hP (h:=⟨_,fun _=>by exact sContainsF _ _ sFac1 l hl,?_⟩);try simp only [vcd,↓vcp,seval])|refine ⟨fun h=>?_,fun h=>?_⟩|refine aX ?_|fail
 (refine rq ?_;first|exact ⟨⟩|simp [List.any_eq_not_all_not])
end Go.Proofs.YtmccbkekpjgdbaaGreat
end
section
namespace Go.Proofs.YtmccbkekpjgdbaaGreat
open Go.Bx
set_option maxRecDepth 10000
def slB (l:List (Int×Int)):D:=.sl false 2 l.length (fun i=>[.int .i64 (l.getD i default).1,.int .i64 (l.getD i default).2])
def bandsR:Int→List (Int×Int)→Bool
 |_,[]=>true
 |last,b::r=>decide (last<b.1∧b.1≤200∧0≤b.2∧b.2≤100000)&&bandsR b.1 r
def bandsL (l:List (Int×Int)):Bool:=bandsR (-1) l&&decide (l.length≤100)
theorem sBands (l:List (Int×Int)) (hl:l.length≤9223372036854775807):Ctr Tryz.prog 159 [.d (slB l)] [] (.d (.bool (bandsL l))) [] []:=by
 refine qP Tryz.func159 fun c hP hfn=>?_;simp only [slB,vcd,↓vcp,seval]
 refine vcC.loop (X:=Nat×Int) (fun x=>⟨[(0,.d (slB l)),(3,.d (.int .i64 x.2)),(6,.d (slB l)),(7,.d (.int .i64 l.length)),(8,.d (.int .i64 x.1))],[],[]⟩)
  (fun x=>x.1≤l.length∧bandsR (-1) l=bandsR x.2 (l.drop x.1)) (fun x=>l.length-x.1) (0,-1) ⟨Nat.zero_le _,rfl⟩ (Wk.of [] hfn rfl (by (simp only [slB,enb,vcd,↓vcp,seval])<;>(first|exact wS (by omega)|(rw [List.length_append];exact wS (by omega))|assumption)) (by simp only [enb,vcd,↓vcp,seval])) ?_
 rintro ⟨k,last⟩ ⟨hk,he⟩
 simp only at hk he
 simp only [slB,vcd,↓vcp,seval]
 refine ⟨fun h1=>?_,fun h1=>?_⟩
 ·have hlt:k<l.length:=by have:=of_decide_eq_true h1;omega
  obtain ⟨x,hd,hg,-,-⟩:=drop_at hlt
  simp only [hg]
  rw [hd,bandsR] at he
  repeat' first|refine ⟨fun h=>?_,fun h=>?_⟩|(refine tA rfl rfl rfl rfl ?_;try simp only [hg,vcd,↓vcp,seval])|refine aX ?_|fail
  ·have hb:¬ (last<x.1∧x.1≤200∧0≤x.2∧x.2≤100000):=by simp only [Bool.or_eq_true,decide_eq_true_eq] at h;omega
   (refine rq ?_;first|exact ⟨⟩|(rw [bandsL,he];simp [hb]))
  ·have hb:(last<x.1∧x.1≤200∧0≤x.2∧x.2≤100000):=by simp only [Bool.or_eq_false_iff,decide_eq_false_iff_not] at h;omega
   refine lopK.on (k+1,x.1) ⟨hlt,?_⟩ (by simp only;omega) (Wk.of [] hfn rfl (by (simp only [slB,enb,vcd,↓vcp,seval])<;>(first|exact wS (by omega)|(rw [List.length_append];exact wS (by omega))|assumption)) (by simp only [enb,vcd,↓vcp,seval]))
   rw [he];simp [hb]
 ·have hkl:k=l.length:=by have:=of_decide_eq_false h1;omega
  rw [hkl,List.drop_length,bandsR] at he
  (refine rq ?_;first|exact ⟨⟩|(rw [bandsL,he,Bool.true_and,Bool.eq_iff_iff];simp only [decide_eq_true_eq];omega))
def bandR:List (Int×Int)→Int→Int
 |[],_=>10000
 |b::r,a=>if b.1<a then bandR r a else b.2
theorem slB_drop {full:Bool} {l:List (Int×Int)} {k m:Nat} (hm:m=(l.drop (k+1)).length):VLe (.d (.sl full 2 m (fun i=>[.int .i64 ((l.drop k).getD (1+i) default).1,.int .i64 ((l.drop k).getD (1+i) default).2]))) (.d (slB (l.drop (k+1)))):=
 VLe.sl hm (fun _=>rfl) (by simp) fun i hi=>by
  have:∀ d,(l.drop k).getD (1+i) d=(l.drop (k+1)).getD i d:=fun d=>by
   rw [List.getD_eq_getElem?_getD,List.getD_eq_getElem?_getD,List.getElem?_drop,List.getElem?_drop,show k+(1+i)=k+1+i by omega]
  rw [this]
theorem sBand (l:List (Int×Int)) (a:Int) (hl:l.length≤9223372036854775807):Ctr Tryz.prog 125 [.d (slB l),.d (.int .i64 a)] [] (.d (.int .i64 (bandR l a))) [] []:=by
 refine qP Tryz.func125 fun c hP hfn=>?_;simp only [vcd,↓vcp,seval]
 have nxt:∀ k,k≤l.length→bandR l a=bandR (l.drop k) a→∀ J:St→Prop,(∀ st',k<l.length→bandR l a=bandR (l.drop (k+1)) a→(Wk c st' ⟨[(0,.d (slB (l.drop (k+1)))),(1,.d (.int .i64 a))],[],[]⟩)→J st')→True:=fun _ _ _ _ _=>trivial
 clear nxt
 refine vcC.scope (X:=Nat) (fun k=>⟨[(0,.d (slB (l.drop k))),(1,.d (.int .i64 a))],[],[]⟩) (fun k=>k≤l.length∧bandR l a=bandR (l.drop k) a) (fun k=>l.length-k) ?_ ?_
 ·simp only [slB,vcd,↓vcp,seval]
  refine ⟨fun h1=>?_,fun h1=>?_⟩
  ·have:l=[]:=by simpa using h1
   subst this
   exact rr
  have hlt:0<l.length:=by simp at h1;exact List.length_pos_iff.2 h1
  obtain ⟨x,hd,hg,-,-⟩:=drop_at hlt
  rw [List.drop_zero] at hd
  have hb:bandR l a=if x.1<a then bandR (l.drop 1) a else x.2:=by
   have:=congrArg (bandR · a) hd
   simpa [bandR] using this
  simp only [hg,vcd,↓vcp,seval]
  repeat' first|refine ⟨fun h=>?_,fun h=>?_⟩|(refine tA rfl rfl rfl rfl ?_;try simp only [vcd,↓vcp,seval])|refine aX ?_|fail
  ·refine ⟨1,⟨hlt,?_⟩,Wk.of [] hfn rfl (by simp only [enb,vcd,↓vcp,seval,Int.reduceToNat];exact slB_drop (l:=l) (k:=0) (by simp)) (by simp only [enb,vcd,↓vcp,seval])⟩
   rw [hb,if_pos (of_decide_eq_true h)]
  ·(refine rq ?_;first|exact ⟨⟩|(rw [hb,if_neg (of_decide_eq_false h)]))
 ·rintro k ⟨hk,he⟩
  simp only [slB,vcd,↓vcp,seval]
  refine ⟨fun h1=>?_,fun h1=>?_⟩
  ·have:l.drop k=[]:=List.eq_nil_of_length_eq_zero (by simpa using h1)
   rw [this] at he
   (refine rq ?_;first|exact ⟨⟩|(rw [he];rfl))
  have hlt:k<l.length:=by simp at h1;omega
  obtain ⟨x,hd,hg,-,-⟩:=drop_at hlt
  have hg0:∀ d,(l.drop k).getD 0 d=x:=fun d=>by rw [hd];rfl
  rw [hd,bandR] at he
  have hlen:(l.drop k).length=l.length-k:=List.length_drop
  simp only [hg0,vcd,↓vcp,seval]
  repeat' first|refine ⟨fun h=>?_,fun h=>?_⟩|(refine tA rfl rfl rfl rfl ?_;try simp only [vcd,↓vcp,seval])|refine aX ?_|fail
  ·rw [if_pos (of_decide_eq_true h)] at he
   refine ⟨k+1,⟨hlt,he⟩,Wk.of [] hfn rfl (by simp only [enb,vcd,↓vcp,seval,Int.reduceToNat];exact slB_drop (l:=l) (k:=k) (by simp;omega)) (by simp only [enb,vcd,↓vcp,seval]),by omega⟩
  ·rw [if_neg (of_decide_eq_false h)] at he
   (refine rq ?_;first|exact ⟨⟩|(rw [he]))
structure Vs where
 fr:Int
 b0:Int
 b1:Int
 b2:Int
 b3:Int
 age:List (Int×Int)
 zn:List Int
 pr:List Int
 mn:Int
instance:Inhabited Vs:=⟨⟨0,0,0,0,0,[],[],[],0⟩⟩
def cV (v:Vs):List V:=[.d (.int .i64 v.fr),.d (.int .i64 v.b0),.d (.int .i64 v.b1),.d (.int .i64 v.b2),.d (.int .i64 v.b3),.d (slB v.age),.d (slK .i64 v.zn),.d (slK .i64 v.pr),.d (.int .i64 v.mn)]
def vV (v:Vs):V:=.ag (cV v)
structure ShortV (v:Vs):Prop where
 age:v.age.length≤9223372036854775807
 zn:v.zn.length≤9223372036854775807
 pr:v.pr.length≤9223372036854775807
def headV (v:Vs):Bool:=decide (1≤v.fr∧v.fr≤292194∧0≤v.mn∧v.mn≤1000000000000000∧v.age.length≤100∧1≤v.zn.length∧v.zn.length≤100∧v.pr.length=8)
def rightV (v:Vs):Bool:=headV v&&([v.b0,v.b1,v.b2,v.b3].all facB&&v.zn.all facB&&v.pr.all facB&&bandsL v.age)
theorem headV_iff {v:Vs}:headV v=true↔1≤v.fr∧v.fr≤292194∧0≤v.mn∧v.mn≤1000000000000000∧v.age.length≤100∧1≤v.zn.length∧v.zn.length≤100∧v.pr.length=8:=by simp only [headV,decide_eq_true_eq]
theorem sFactors4 {full:Bool} {l:List Int} {F:Nat→List D} (hl:l.length=4) (hF:∀ i,i<4→F i=[.int .i64 (l.getD i 0)]):Ctr Tryz.prog 158 [.d (.sl full 1 4 F)] [] (.d (.bool (l.all facB))) [] []:=
 (sFactors l (by omega)).arg ⟨VLe.sl hl.symm (fun _=>rfl) (by simp) hF,trivial⟩
theorem sVersion (v:Vs) (hv:ShortV v):Ctr Tryz.prog 124 [vV v] [] (.d (.bool (rightV v))) [] []:=by
 have hh:=@headV_iff v
 have c1:=sFactors4 (full:=true) (l:=[v.b0,v.b1,v.b2,v.b3]) (F:=litRow 1 [.int .i64 v.b0,.int .i64 v.b1,.int .i64 v.b2,.int .i64 v.b3,slB v.age,slK .i64 v.zn,slK .i64 v.pr,.int .i64 v.mn]) rfl (by intro i hi;rcases i with _|_|_|_|i<;>first|rfl|omega)
 have cb:=sBands v.age hv.age
 have h1:=hv.age
 have h2:=hv.zn
 have h3:=hv.pr
 simp only [slB,slK] at c1 cb
 refine qP Tryz.func124 fun c hP hfn=>?_;simp only [vV,cV,slB,slK,vcd,↓vcp,seval]
 repeat' first|(refine tq hP (h:=⟨_,fun _=>by first|exact c1|exact sFactors v.zn hv.zn|exact sFactors v.pr hv.pr|exact cb,?_⟩);try simp only [vcd,↓vcp,seval])|refine ⟨fun h=>?_,fun h=>?_⟩|(refine tA rfl rfl rfl rfl ?_;try simp only [vcd,↓vcp,seval])|refine aX ?_|fail
 ·have hb:headV v=false:=by rw [←Bool.not_eq_true,hh];simp only [Bool.or_eq_true,decide_eq_true_eq] at h;omega
  (refine rq ?_;first|exact ⟨⟩|(rw [rightV,hb];rfl))
 ·rename_i h0
  have hb:headV v=false:=by rw [←Bool.not_eq_true,hh];simp only [Bool.or_eq_true,bne_iff_ne,ne_eq,decide_eq_true_eq] at h;omega
  (refine rq ?_;first|exact ⟨⟩|(rw [rightV,hb];rfl))
 ·rename_i h0
  have hb:headV v=true:=by
   rw [hh]
   simp only [Bool.or_eq_false_iff,bne_eq_false_iff_eq,decide_eq_false_iff_not] at h0 h
   omega
  (refine rq ?_;first|exact ⟨⟩|(rw [rightV,hb];simp [Bool.and_assoc]))
end Go.Proofs.YtmccbkekpjgdbaaGreat
end
section
namespace Go.Proofs.YtmccbkekpjgdbaaGreat
open Go.Bx
set_option maxRecDepth 10000
def goQ:Int→List Int→Int×Int
 |m,[]=>(m,0)
 |m,f::r=>if (bpR m f).2=0 then goQ (bpR m f).1 r else (0,(bpR m f).2)
theorem bpR_fst (a b:Int):0≤(bpR a b).1∧(bpR a b).1≤4000000000000000000:=by
 unfold bpR ofR
 generalize (if upE (a.toNat*b.toNat / (10000:Int).toNat) (a.toNat*b.toNat % (10000:Int).toNat) (10000:Int).toNat=true then 1 else 0)=u
 generalize a.toNat*b.toNat / (10000:Int).toNat=q
 (repeat' split)<;>first
  |(simp;done)
  |(constructor<;>simp only<;>omega)
def baseR (v:Vs) (k:Int):Int:=if k=0 then v.b0 else if k=1 then v.b1 else if k=2 then v.b2 else v.b3
def facsR (v:Vs) (r:Rk) (c:Cv):List Int:=[baseR v r.kd,bandR v.age r.ag,v.zn.getD r.zo.toNat 0,v.pr.getD c.pe.toNat 0,c.sh]
def mayQ (v:Vs) (r:Rk) (c:Cv):Bool:=rightV v&&rightR r&&rightC c
def oneR (v:Vs) (r:Rk) (c:Cv):Int×Int:=
 if mayQ v r c=false then (0,1) else if (v.zn.length:Int)≤r.zo then (0,7)
 else if (goQ r.va (facsR v r c)).2=0 then (max (goQ r.va (facsR v r c)).1 v.mn,0) else (0,(goQ r.va (facsR v r c)).2)
theorem rightC_weak {c:Cv} (h:rightC c=true):0≤c.pe∧c.pe<8∧1≤c.sh∧c.sh≤10000:=by
 simp only [rightC,Bool.and_eq_true,decide_eq_true_eq] at h
 omega
theorem bandR_le {l:List (Int×Int)} {last:Int} (h:bandsR last l=true) (a:Int):0≤bandR l a∧bandR l a≤100000:=by
 induction l generalizing last with
 |nil=>simp [bandR]
 |cons b r ih =>
  simp only [bandsR,Bool.and_eq_true,decide_eq_true_eq] at h
  simp only [bandR]
  split
  ·exact ih h.2
  ·omega
structure FacsOk (v:Vs) (r:Rk) (c:Cv):Prop where
 head:headV v=true
 kd:0≤r.kd∧r.kd<4
 va:1≤r.va∧r.va≤1000000000000000
 zo:0≤r.zo∧r.zo<100
 pe:0≤c.pe∧c.pe<8
 mn:0≤v.mn∧v.mn≤1000000000000000
 pr:v.pr.length=8
 all:∀ x,x∈facsR v r c→0≤x∧x≤100000
theorem getD_all {l:List Int} (h:l.all facB=true) (n:Nat):0≤l.getD n 0∧l.getD n 0≤100000:=by
 by_cases hn:n<l.length
 ·have:=List.all_eq_true.1 h (l.getD n 0) (by rw [List.getD_eq_getElem?_getD,List.getElem?_eq_getElem hn];exact List.getElem_mem hn)
  exact facB_iff.1 this
 ·rw [List.getD_eq_getElem?_getD,List.getElem?_eq_none (by omega)];simp
theorem facs_ok {v:Vs} {r:Rk} {c:Cv} (h:mayQ v r c=true):FacsOk v r c:=by
 simp only [mayQ,rightV,Bool.and_eq_true,List.all_cons,List.all_nil,Bool.and_true] at h
 obtain ⟨⟨⟨h1,⟨⟨⟨g0,g1,g2,g3⟩,h3⟩,h4⟩,h5⟩,h6⟩,h7⟩:=h
 rw [facB_iff] at g0 g1 g2 g3
 have k1:=headV_iff.1 h1
 have k6:=rightR_iff.1 h6
 have k7:=rightC_weak h7
 simp only [bandsL,Bool.and_eq_true] at h5
 refine ⟨h1,by omega,by omega,by omega,by omega,by omega,by omega,fun x hx=>?_⟩
 simp only [facsR,List.mem_cons,List.not_mem_nil,or_false] at hx
 rcases hx with rfl|rfl|rfl|rfl|rfl
 ·unfold baseR;split;· omega
  split;· omega
  split<;>omega
 ·exact bandR_le h5.1 _
 ·exact getD_all h3 _
 ·exact getD_all h4 _
 ·omega
end Go.Proofs.YtmccbkekpjgdbaaGreat
end
section
namespace Go.Proofs.YtmccbkekpjgdbaaGreat
open Go.Bx
set_option maxRecDepth 10000
theorem base_nth {v:Vs} {k:Int} (h:0≤k∧k<4) (a b c d:V) (x:V):nth [x,.d (.int .i64 v.b0),.d (.int .i64 v.b1),.d (.int .i64 v.b2),.d (.int .i64 v.b3),a,b,c,d] (1+k.toNat)=.d (.int .i64 (baseR v k)):=by
 have:k=0∨k=1∨k=2∨k=3:=by omega
 rcases this with rfl|rfl|rfl|rfl<;>rfl
theorem facs_nth {v:Vs} {r:Rk} {c:Cv} {k:Nat} (h:k<5):nth [.d (.int .i64 (baseR v r.kd)),.d (.int .i64 (bandR v.age r.ag)),.d (.int .i64 (v.zn.getD r.zo.toNat 0)),.d (.int .i64 (v.pr.getD c.pe.toNat 0)),.d (.int .i64 c.sh)] k=.d (.int .i64 ((facsR v r c).getD k 0)):=by
 have:k=0∨k=1∨k=2∨k=3∨k=4:=by omega
 rcases this with rfl|rfl|rfl|rfl|rfl<;>rfl
theorem oneR_bad {v:Vs} {r:Rk} {c:Cv} (h:mayQ v r c=false):oneR v r c=(0,1):=by rw [oneR,if_pos h]
theorem oneR_none {v:Vs} {r:Rk} {c:Cv} (h:mayQ v r c=true) (h2:(v.zn.length:Int)≤r.zo):oneR v r c=(0,7):=by rw [oneR,if_neg (by rw [h];simp),if_pos h2]
theorem oneR_go {v:Vs} {r:Rk} {c:Cv} (h:mayQ v r c=true) (h2:¬ (v.zn.length:Int)≤r.zo) :
  oneR v r c=if (goQ r.va (facsR v r c)).2=0 then (max (goQ r.va (facsR v r c)).1 v.mn,0) else (0,(goQ r.va (facsR v r c)).2):=by rw [oneR,if_neg (by rw [h];simp),if_neg h2]
set_option maxHeartbeats 2000000 in
theorem sOne (v:Vs) (r:Rk) (w:Cv) (hv:ShortV v):Ctr Tryz.prog 75 [vV v,vR r,vC w] [] (.tup [.d (.int .i64 (oneR v r w).1),.d (.int .i64 (oneR v r w).2)]) [] []:=by
 have c1:=sVersion v hv
 have c2:=sRisk r
 have c3:=sCover w
 have c4:=sBand v.age r.ag hv.age
 have hm2:mayQ v r w=(rightV v&&rightR r&&rightC w):=rfl
 have hz2:=hv.zn
 have hp2:=hv.pr
 simp only [vV,cV,vR,cR,vC,cC,slB,slK] at c1 c2 c3 c4
 generalize rightV v=q1 at c1 hm2
 generalize rightR r=q2 at c2 hm2
 generalize rightC w=q3 at c3 hm2
 refine qP Tryz.func75 fun c hP hfn=>?_;simp only [vV,cV,vR,cR,vC,cC,slB,slK,vcd,↓vcp,seval]
 refine vcC.scope0 ?_
 simp only [vcd,↓vcp,seval]
 repeat' first|(refine tq hP (h:=⟨_,fun _=>by first|exact c1|exact c2|exact c3,?_⟩);try simp only [vcd,↓vcp,seval])|refine ⟨fun h=>?_,fun h=>?_⟩|refine aX ?_|fail
 ·have hm:mayQ v r w=false:=by rw [hm2];cases q1<;>cases q2<;>cases q3<;>simp_all
  (refine rp (VLe.tups ?_);simp only [rsb,vcd,↓vcp,seval])
  rw [oneR_bad hm];exact ⟨VLe.refl _,VLe.refl _,trivial⟩
 ·rename_i h0
  have hm:mayQ v r w=true:=by rw [hm2];cases q1<;>cases q2<;>cases q3<;>simp_all
  (refine rp (VLe.tups ?_);simp only [rsb,vcd,↓vcp,seval])
  rw [oneR_none hm (of_decide_eq_true h)];exact ⟨VLe.refl _,VLe.refl _,trivial⟩
 rename_i h0
 have hm:mayQ v r w=true:=by rw [hm2];cases q1<;>cases q2<;>cases q3<;>simp_all
 clear h0
 have hf:=facs_ok hm
 obtain ⟨f1,f2,f3,f4,f5,f6,f7,f8⟩:=hf
 have hbn:=base_nth (v:=v) f2 (.d (slB v.age)) (.d (slK .i64 v.zn)) (.d (slK .i64 v.pr)) (.d (.int .i64 v.mn)) (.d (.int .i64 v.fr))
 simp only [slB,slK] at hbn
 have hz:¬ (v.zn.length:Int)≤r.zo:=of_decide_eq_false h
 have he:=oneR_go hm hz
 have hpr:(v.pr.length:Int)=8:=by omega
 clear h
 simp only [hbn]
 repeat' first|(refine tq hP (h:=⟨_,fun _=>by exact c4,?_⟩);try simp only [hbn,vcd,↓vcp,seval])|refine ⟨fun h=>?_,fun h=>?_⟩|refine aX ?_|fail
 refine vcC.loop (X:=Nat×Int) (fun x=>⟨[(3,.own 3 0),(8,.d (.int .i64 x.2)),(9,.d (.int .i64 0)),(59,.ag [.d (.int .i64 (baseR v r.kd)),.d (.int .i64 (bandR v.age r.ag)),.d (.int .i64 (v.zn.getD r.zo.toNat 0)),.d (.int .i64 (v.pr.getD w.pe.toNat 0)),.d (.int .i64 w.sh)]),(60,.d (.int .i64 x.1))],[(3,.fix (cV v))],[3]⟩)
  (fun x=>x.1≤5∧0≤x.2∧x.2≤4000000000000000000∧goQ r.va (facsR v r w)=goQ x.2 ((facsR v r w).drop x.1)) (fun x=>5-x.1) (0,r.va) ⟨by omega,by simp only;omega,by simp only;omega,rfl⟩ (Wk.of [] hfn rfl (by simp only [cV,slB,slK,enb,vcd,↓vcp,seval]) (by simp only [cV,slB,slK,enb,vcd,↓vcp,seval])) ?_
 rintro ⟨k,m⟩ ⟨hk,hm0,hm1,hgo⟩
 simp only at hk hm0 hm1 hgo
 simp only [cV,slB,slK,vcd,↓vcp,seval]
 refine ⟨fun h1=>?_,fun h1=>?_⟩
 ·have hlt:k<5:=by have:=of_decide_eq_true h1;omega
  have hn:=facs_nth (v:=v) (r:=r) (c:=w) hlt
  obtain ⟨x,hd,hg,hmem,-⟩:=drop_at (l:=facsR v r w) (show k<(facsR v r w).length from hlt)
  have hx:=f8 x hmem
  have c5:=sBp m x (by omega) (by omega)
  have hb:=bpR_fst m x
  rw [hd,goQ] at hgo
  simp only [hn,hg,vcd,↓vcp,seval]
  repeat' first|(refine tq hP (h:=⟨_,fun _=>by exact c5,?_⟩);try simp only [vcd,↓vcp,seval])|refine ⟨fun h=>?_,fun h=>?_⟩|refine aX ?_|fail
  ·have h':¬ (bpR m x).2=0:=by simpa using h
   rw [if_neg h'] at hgo
   rw [hgo,if_neg h'] at he
   (refine rp (VLe.tups ?_);simp only [rsb,vcd,↓vcp,seval])
   rw [he];exact ⟨VLe.refl _,VLe.refl _,trivial⟩
  ·rename_i g;rw [g] at h;cases h
  ·have h':(bpR m x).2=0:=by simpa using h
   rw [if_pos h'] at hgo
   rw [h']
   exact lopK.on (k+1,(bpR m x).1) ⟨hlt,hb.1,hb.2,hgo⟩ (by simp only;omega) (Wk.of [] hfn rfl (by (simp only [cV,slB,slK,enb,vcd,↓vcp,seval])<;>(first|exact wS (by omega)|(rw [List.length_append];exact wS (by omega))|assumption)) (by simp only [cV,slB,slK,enb,vcd,↓vcp,seval]))
 ·have hk5:k=5:=by have:=of_decide_eq_false h1;omega
  rw [hk5,show (facsR v r w).drop 5=[] from rfl,goQ] at hgo
  rw [hgo,if_pos rfl] at he
  repeat' first|refine ⟨fun h=>?_,fun h=>?_⟩|refine aX ?_|fail
  all_goals try (exact absurd h (by decide))
  (refine rp (VLe.tups ?_);simp only [rsb,vcd,↓vcp,seval])
  rw [he];exact ⟨VLe.refl _,VLe.refl _,trivial⟩
end Go.Proofs.YtmccbkekpjgdbaaGreat
end
section
namespace Go.Proofs.YtmccbkekpjgdbaaGreat
open Go.Bx
set_option maxRecDepth 10000
def slC (l:List Cv):D:=.sl false 5 l.length (fun i=>[.int .i64 (l.getD i default).pe,.int .i64 (l.getD i default).li,.int .i64 (l.getD i default).ag,.int .i64 (l.getD i default).de,.int .i64 (l.getD i default).sh])
def errQ (v:Vs) (r:Rk):List Cv→Int
 |[]=>0
 |c::l=>if (oneR v r c).2=0 then errQ v r l else (oneR v r c).2
def msQ (v:Vs) (r:Rk) (l:List Cv):List Int:=l.map fun c=>(oneR v r c).1
def yearR (v:Vs) (r:Rk) (l:List Cv):Int×Int:=
 if errQ v r l≠0 then (0,errQ v r l) else if 4000000000000000000<(msQ v r l).sum then (0,5) else ((msQ v r l).sum,0)
theorem goQ_fst {l:List Int}:∀ {m:Int},0≤m→m≤4000000000000000000→0≤(goQ m l).1∧(goQ m l).1≤4000000000000000000:=by
 induction l with
 |nil=>intro m h1 h2;exact ⟨h1,h2⟩
 |cons f r ih =>
  intro m h1 h2
  rw [goQ]
  split
  ·exact ih (bpR_fst m f).1 (bpR_fst m f).2
  ·simp
theorem oneR_fst (v:Vs) (r:Rk) (c:Cv):0≤(oneR v r c).1∧(oneR v r c).1≤4000000000000000000:=by
 unfold oneR
 split
 ·simp
 ·rename_i h
  have hf:=facs_ok (v:=v) (r:=r) (c:=c) (by simpa using h)
  have h1:=hf.va
  have h2:=hf.mn
  split
  ·simp
  ·split
   ·have:=goQ_fst (l:=facsR v r c) (m:=r.va) (by omega) (by omega)
    constructor<;>simp only<;>omega
   ·simp
theorem sumQ_nonneg:∀ {l:List Int},(∀ x,x∈l→0≤x)→0≤l.sum
 |[],_=>by simp
 |a::t,h=>by
  have h1:=h a (by simp)
  have h2:=sumQ_nonneg (l:=t) (fun x hx=>h x (by simp [hx]))
  simp only [List.sum_cons];omega
theorem msQ_pos (v:Vs) (r:Rk) (l:List Cv):∀ x,x∈msQ v r l→0≤x∧x≤4000000000000000000:=by
 intro x hx
 obtain ⟨c,-,rfl⟩:=List.mem_map.1 hx
 exact oneR_fst v r c
theorem msQ_snoc (v:Vs) (r:Rk) {l:List Cv} {k:Nat} {c:Cv} (h:l[k]?=some c):msQ v r (l.take (k+1))=msQ v r (l.take k)++[(oneR v r c).1]:=by
 rw [List.take_add_one,h];simp [msQ]
theorem sAdder:Ctr Tryz.prog 74 [] [] (.fn (.func 123) [] [.own 1 0]) [(1,.fix [.d (.int .i64 0)])] [1]:=by
 refine qO Tryz.func74 ?_
 intro c hP hfn
 simp only [namesL,V.names,ownNames,vcd,↓vcp,seval]
 repeat' first|refine ⟨fun h=>?_,fun h=>?_⟩|refine aX ?_|fail
 exact rK (Wk.refl _ _) (by simp only [enb,vcd,↓vcp,seval])
def addR (s m:Int):Int×Bool:=if 4000000000000000000-s<m then (0,false) else (s+m,true)
theorem sAdd (s m:Int) (h1:0≤s) (h2:s≤4000000000000000000) (h3:0≤m) (h4:m≤4000000000000000000) :
  Ctr Tryz.prog 123 [.d (.int .i64 m),.own 1 0] [(1,.fix [.d (.int .i64 s)])] (.tup [.d (.int .i64 (addR s m).1),.d (.bool (addR s m).2)]) [(1,.fix [.d (.int .i64 (if (addR s m).2=true then s+m else s))])] []:=by
 refine qO Tryz.func123 ?_
 intro c hP hfn
 have e1:IntKind.i64.wrap (4000000000000000000-s)=4000000000000000000-s:=wI (by omega)
 simp only [namesL,V.names,ownNames,e1,vcd,↓vcp,seval]
 repeat' first|refine ⟨fun h=>?_,fun h=>?_⟩|refine aX ?_|fail
 ·have e:addR s m=(0,false):=by rw [addR,if_pos (by have:=of_decide_eq_true h;omega)]
  rw [e]
  exact RetK.mk _ (Wk.refl _ _) (by simp only [rsb,vcd,↓vcp,seval]) (VLe.tups (by simp only [rsb,enb,vcd,↓vcp,seval])) (by simp only [enb,vcd,↓vcp,seval])
 ·have e:addR s m=(s+m,true):=by rw [addR,if_neg (by have:=of_decide_eq_false h;omega)]
  have e2:IntKind.i64.wrap (s+m)=s+m:=by have:=of_decide_eq_false h;exact wI (by omega)
  rw [e]
  simp only [e2]
  exact RetK.mk _ (Wk.refl _ _) (by simp only [rsb,vcd,↓vcp,seval]) (VLe.tups (by simp only [rsb,enb,vcd,↓vcp,seval])) (by simp only [enb,vcd,↓vcp,seval])
end Go.Proofs.YtmccbkekpjgdbaaGreat
end
section
namespace Go.Proofs.YtmccbkekpjgdbaaGreat
open Go.Bx
set_option maxRecDepth 10000
structure YrI (v:Vs) (r:Rk) (l:List Cv) (k:Nat) (acc s:Int) (b:Bool):Prop where
 le:k≤l.length
 er:errQ v r l=errQ v r (l.drop k)
 fit:b=true→acc=(msQ v r (l.take k)).sum∧s=acc∧acc≤4000000000000000000
 not:b=false→4000000000000000000<(msQ v r (l.take k)).sum
set_option maxHeartbeats 2000000 in
theorem sYear (v:Vs) (r:Rk) (l:List Cv) (hv:ShortV v) (hl:l.length≤9223372036854775807):Ctr Tryz.prog 37 [vV v,vR r,.d (slC l)] [] (.tup [.d (.int .i64 (yearR v r l).1),.d (.int .i64 (yearR v r l).2)]) [] []:=by
 have hy:yearR v r l=if errQ v r l≠0 then (0,errQ v r l) else if 4000000000000000000<(msQ v r l).sum then (0,5) else ((msQ v r l).sum,0):=rfl
 refine qP Tryz.func37 fun c hP hfn=>?_;simp only [vV,cV,vR,cR,slC,slB,slK,vcd,↓vcp,seval]
 refine TR.call [] [(1,.fix [.d (.int .i64 0)])] _ [1] (by rw [hP];exact sAdder) trivial (by simp) (by simp [keysO]) (by simp) ?_
 simp only [vcd,↓vcp,seval]
 refine vcC.loop (X:=Nat×Int×Int×Bool) (fun x=>⟨[(3,.own 3 0),(4,.own 4 0),(8,.fn (.func 123) [] [.own 1 0]),(9,.d (.int .i64 x.2.2.1)),(10,.d (.bool x.2.2.2)),(16,.d (slC l)),(17,.d (.int .i64 l.length)),(18,.d (.int .i64 x.1))],
   [(1,.fix [.d (.int .i64 x.2.1)]),(3,.fix (cV v)),(4,.fix (cR r))],[1,3,4]⟩)
  (fun x=>YrI v r l x.1 x.2.1 x.2.2.1 x.2.2.2) (fun x=>l.length-x.1) (0,0,0,true) ⟨Nat.zero_le _,rfl,fun _=>(by simp [msQ]),fun h=>(by cases h)⟩
  (Wk.of [] hfn rfl (by simp only [slC,enb,vcd,↓vcp,seval]) (by simp only [cV,cR,slB,slK,enb,vcd,↓vcp,seval])) ?_
 rintro ⟨k,acc,s,b⟩ ⟨hk,he,hft,hfn2⟩
 simp only at hk he hft hfn2
 simp only [cV,cR,slB,slK,slC,vcd,↓vcp,seval]
 refine ⟨fun h1=>?_,fun h1=>?_⟩
 ·have hlt:k<l.length:=by have:=of_decide_eq_true h1;omega
  obtain ⟨x,hd,hg,hmem,hat⟩:=drop_at hlt
  have c1:=sOne v r x hv
  simp only [vV,cV,vR,cR,vC,cC,slB,slK] at c1
  rw [hd,errQ] at he
  have hsn:=msQ_snoc v r hat
  have hpos:=oneR_fst v r x
  simp only [hg,vcd,↓vcp,seval]
  repeat' first|(refine tq hP (h:=⟨_,fun _=>by exact c1,?_⟩);try simp only [vcd,↓vcp,seval])|refine ⟨fun h=>?_,fun h=>?_⟩|refine aX ?_|fail
  ·have h':¬ (oneR v r x).2=0:=by simpa using h
   rw [if_neg h'] at he
   rw [if_pos (by rw [he];exact h'),he] at hy
   (refine rp (VLe.tups ?_);simp only [rsb,vcd,↓vcp,seval])
   rw [hy];exact ⟨VLe.refl _,VLe.refl _,trivial⟩
  ·rename_i h2
   have h':(oneR v r x).2=0:=by simpa using h2
   rw [if_pos h'] at he
   obtain ⟨g1,g2,g3⟩:=hft h
   have g0:0≤acc:=by rw [g1];exact sumQ_nonneg (fun y hy=>(msQ_pos v r _ y hy).1)
   have c2:=sAdd acc (oneR v r x).1 g0 g3 hpos.1 hpos.2
   refine TR.cv1 hP rfl c2 trivial (by repeat' first|exact trivial|(intro _;assumption)|apply And.intro) rfl ?_
   simp only [vcd,↓vcp,seval]
   have hs:(msQ v r (l.take (k+1))).sum=acc+(oneR v r x).1:=by rw [hsn,List.sum_append,g1];simp
   by_cases hov:4000000000000000000-acc<(oneR v r x).1
   ·have e:addR acc (oneR v r x).1=(0,false):=by rw [addR,if_pos hov]
    rw [e]
    exact lopK.on (k+1,acc,0,false) ⟨hlt,he,fun h=>(by cases h),fun _=>by simp only;omega⟩ (by simp only;omega) (Wk.of [] hfn rfl (by (simp only [slC,cV,cR,slB,slK,enb,vcd,↓vcp,seval])<;>(first|exact wS (by omega)|(rw [List.length_append];exact wS (by omega))|assumption)) (by simp only [cV,cR,slB,slK,enb,vcd,↓vcp,seval]))
   ·have e:addR acc (oneR v r x).1=(acc+(oneR v r x).1,true):=by rw [addR,if_neg hov]
    rw [e]
    exact lopK.on (k+1,acc+(oneR v r x).1,acc+(oneR v r x).1,true) ⟨hlt,he,fun _=>⟨by simp only;omega,rfl,by simp only;omega⟩,fun h=>by cases h⟩ (by simp only;omega) (Wk.of [] hfn rfl (by (simp only [slC,cV,cR,slB,slK,enb,vcd,↓vcp,seval])<;>(first|exact wS (by omega)|(rw [List.length_append];exact wS (by omega))|assumption)) (by simp only [cV,cR,slB,slK,enb,vcd,↓vcp,seval]))
  ·rename_i h2
   have h':(oneR v r x).2=0:=by simpa using h2
   rw [if_pos h'] at he
   have hs:=hfn2 h
   have h3:(msQ v r (l.take (k+1))).sum=(msQ v r (l.take k)).sum+(oneR v r x).1:=by rw [hsn,List.sum_append];simp
   exact lopK.on (k+1,acc,s,b) ⟨hlt,he,fun g=>(by rw [h] at g;cases g),fun _=>by simp only;omega⟩ (by simp only;omega) (Wk.of [] hfn rfl (by (simp only [slC,cV,cR,slB,slK,enb,vcd,↓vcp,seval])<;>(first|exact wS (by omega)|(rw [List.length_append];exact wS (by omega))|assumption)) (by simp only [cV,cR,slB,slK,enb,vcd,↓vcp,seval]))
 ·have hkl:k=l.length:=by have:=of_decide_eq_false h1;omega
  rw [hkl,List.drop_length,errQ] at he
  rw [hkl,List.take_length] at hft hfn2
  rw [he,if_neg (by simp)] at hy
  repeat' first|refine ⟨fun h=>?_,fun h=>?_⟩|refine aX ?_|fail
  ·have hb:b=false:=by simpa using h
   rw [if_pos (hfn2 hb)] at hy
   (refine rp (VLe.tups ?_);simp only [rsb,vcd,↓vcp,seval])
   rw [hy];exact ⟨VLe.refl _,VLe.refl _,trivial⟩
  ·have hb:b=true:=by simpa using h
   obtain ⟨g1,g2,g3⟩:=hft hb
   rw [if_neg (by omega),←g1] at hy
   (refine rp (VLe.tups ?_);simp only [rsb,vcd,↓vcp,seval])
   rw [hy,g2];exact ⟨VLe.refl _,VLe.refl _,trivial⟩
end Go.Proofs.YtmccbkekpjgdbaaGreat
end
section
namespace Go.Proofs.YtmccbkekpjgdbaaGreat
open Go.Bx
set_option maxRecDepth 10000
def upD (_ _ _:Nat):Bool:=false
theorem sDown1 (q r c:Nat) (_:r<c) (_:c<9223372036854775808):Ctr Tryz.prog 185 [.d (.int .u64 q),.d (.int .u64 r),.d (.int .u64 c)] [] (.d (.bool (upD q r c))) [] []:=by
 refine qP Tryz.func185 fun c hP hfn=>?_;simp only [vcd,↓vcp,seval]
 exact rp (by simp only [rsb,enb,vcd,↓vcp,seval,upD])
theorem sDown0:Ctr Tryz.prog 165 [] [] (.ag [.fn (.func 185) [] []]) [] []:=by
 refine qP Tryz.func165 fun c hP hfn=>?_;simp only [vcd,↓vcp,seval]
 exact rr
def downR (a b k:Int):Int×Int:=ofR upD a b k
theorem sDown (a b k:Int) (ha:a≤9223372036854775807) (hb:b≤9223372036854775807) (hc:k≤9223372036854775807) :
  Ctr Tryz.prog 131 [.d (.int .i64 a),.d (.int .i64 b),.d (.int .i64 k)] [] (.tup [.d (.int .i64 (downR a b k).1),.d (.int .i64 (downR a b k).2)]) [] []:=by
 refine qP Tryz.func131 fun c hP hfn=>?_;simp only [vcd,↓vcp,seval]
 repeat' first|(refine tq hP (h:=⟨_,fun _=>by first|exact sDown0|exact sOf 185 upD sDown1 a b k ha hb hc,?_⟩);try simp only [vcd,↓vcp,seval])|refine ⟨fun h=>?_,fun h=>?_⟩|refine aX ?_|fail
 (refine rp (VLe.tups ?_);simp only [rsb,vcd,↓vcp,seval])
 exact ⟨VLe.refl _,VLe.refl _,trivial⟩
def psums:Int→List Int→List Int
 |_,[]=>[]
 |n,p::r=>(n+p)::psums (n+p) r
def deal2 (m S:Int):Int→List Int→List Int
 |_,[]=>[]
 |d,s::r=>IntKind.i64.wrap ((downR m s S).1-d)::deal2 m S (downR m s S).1 r
def splitR (m:Int) (parts:List Int):List Int×Int:=
 if m<0∨2000<parts.length then ([],1)
 else if parts.any (fun p=>decide (p<0))=true then ([],1)
 else if 4000000000000000000<parts.sum∨4000000000000000000<m then ([],5)
 else if parts.sum=0 then ([],6)
 else (deal2 m parts.sum 0 (psums 0 parts),0)
theorem psums_len:∀ (l:List Int) (n:Int),(psums n l).length=l.length
 |[],_=>rfl
 |p::r,n=>by simp [psums,psums_len r]
theorem psums_snoc:∀ (l:List Int) (n x:Int),psums n (l++[x])=psums n l++[n+l.sum+x]
 |[],n,x=>by simp [psums]
 |p::r,n,x=>by simp [psums,psums_snoc r];omega
theorem psums_last {l:List Int} {n:Int} (h:0<l.length):(psums n l).getD (l.length-1) 0=n+l.sum:=by
 obtain ⟨r,x,rfl⟩:∃ r x,l=r++[x]:=by
  cases l with
  |nil=>simp at h
  |cons p r=>exact ⟨(p::r).dropLast,(p::r).getLast (by simp),(List.dropLast_concat_getLast (by simp)).symm⟩
 rw [psums_snoc]
 simp [psums_len]
 omega
def runR (s p:Int):(Int×Int)×Int:=
 if p<0 then ((0,1),s)
 else if IntKind.i64.wrap (s+p)>4000000000000000000∨IntKind.i64.wrap (s+p)<0 then ((0,5),4000000000000000001)
 else ((IntKind.i64.wrap (s+p),0),IntKind.i64.wrap (s+p))
theorem sRun1 (s p:Int):Ctr Tryz.prog 164 [.d (.int .i64 p),.own 1 0] [(1,.fix [.d (.int .i64 s)])] (.tup [.d (.int .i64 (runR s p).1.1),.d (.int .i64 (runR s p).1.2)]) [(1,.fix [.d (.int .i64 (runR s p).2)])] []:=by
 refine qO Tryz.func164 ?_
 intro c hP hfn
 simp only [namesL,V.names,ownNames,vcd,↓vcp,seval]
 refine ⟨fun h=>?_,fun h=>⟨fun h2=>?_,fun h2=>?_⟩⟩
 ·have e:runR s p=((0,1),s):=by rw [runR,if_pos (of_decide_eq_true h)]
  rw [e]
  exact rK (Wk.refl _ _) (by simp only [enb,vcd,↓vcp,seval])
 ·have h2':IntKind.i64.wrap (s+p)>4000000000000000000∨IntKind.i64.wrap (s+p)<0:=by simpa using h2
  have e:runR s p=((0,5),4000000000000000001):=by rw [runR,if_neg (of_decide_eq_false h),if_pos h2']
  rw [e]
  exact rK (Wk.refl _ _) (by simp only [enb,vcd,↓vcp,seval])
 ·have h2':¬ (IntKind.i64.wrap (s+p)>4000000000000000000∨IntKind.i64.wrap (s+p)<0):=by simpa using h2
  have e:runR s p=((IntKind.i64.wrap (s+p),0),IntKind.i64.wrap (s+p)):=by rw [runR,if_neg (of_decide_eq_false h),if_neg h2']
  rw [e]
  exact rK (Wk.refl _ _) (by simp only [enb,vcd,↓vcp,seval])
theorem sRun:Ctr Tryz.prog 130 [] [] (.fn (.func 164) [] [.own 1 0]) [(1,.fix [.d (.int .i64 0)])] [1]:=by
 refine qO Tryz.func130 ?_
 intro c hP hfn
 simp only [namesL,V.names,ownNames,vcd,↓vcp,seval]
 exact rK (Wk.refl _ _) (by simp only [enb,vcd,↓vcp,seval])
structure SpI (m:Int) (l:List Int) (k:Nat) (dn:List Int) (s:Int) (over:Bool):Prop where
 len:dn.length=k
 le:k≤l.length
 nn:∀ x,x∈l.take k→0≤x
 st:((l.take k).sum≤4000000000000000000∧s=(l.take k).sum∧dn=psums 0 (l.take k)∧over=decide (m>4000000000000000000))∨(4000000000000000000<(l.take k).sum∧s=4000000000000000001∧over=true)
theorem sum_nonneg:∀ {l:List Int},(∀ x,x∈l→0≤x)→0≤l.sum
 |[],_=>by simp
 |p::r,h=>by
  have:=h p (by simp)
  have ih:=sum_nonneg (l:=r) (fun x hx=>h x (by simp [hx]))
  simp only [List.sum_cons];omega
theorem spI_step {m:Int} {l:List Int} {k:Nat} {dn:List Int} {s:Int} {over:Bool} {x:Int} (h:SpI m l k dn s over) (hlt:k<l.length) (hat:l[k]?=some x) (hx:x≤9223372036854775807) :
  ((runR s x).1.2=1∧x<0)∨(0≤x∧(runR s x).1.2≠1∧SpI m l (k+1) (dn++[(runR s x).1.1]) (runR s x).2 (over || ((runR s x).1.2 == 5))):=by
 have ht:l.take (k+1)=l.take k++[x]:=by rw [List.take_add_one,hat];rfl
 by_cases hneg:x<0
 ·left;rw [runR,if_pos hneg];exact ⟨rfl,hneg⟩
 right
 have hs0:=sum_nonneg h.nn
 have hnn:∀ y,y∈l.take (k+1)→0≤y:=by
  intro y hy
  rw [ht] at hy
  rcases List.mem_append.1 hy with hy|hy
  ·exact h.nn y hy
  ·simp at hy;omega
 have hsum:(l.take (k+1)).sum=(l.take k).sum+x:=by rw [ht];simp
 rcases h.st with ⟨h1,h2,h3,h4⟩|⟨h1,h2,h3⟩
 ·by_cases hov:4000000000000000000<(l.take k).sum+x
  ·have hw:IntKind.i64.wrap (s+x)>4000000000000000000∨IntKind.i64.wrap (s+x)<0:=by rw [IntKind.wrap_i64];omega
   rw [runR,if_neg hneg,if_pos hw]
   exact ⟨by omega,by simp,⟨by simp [h.len],hlt,hnn,.inr ⟨by omega,rfl,by simp⟩⟩⟩
  ·have hw:IntKind.i64.wrap (s+x)=s+x:=wI (by omega)
   rw [runR,if_neg hneg,hw,if_neg (by omega)]
   refine ⟨by omega,by simp,⟨by simp [h.len],hlt,hnn,.inl ⟨by omega,by simp only;omega,?_,by simp [h4]⟩⟩⟩
   rw [ht,psums_snoc,h3,h2];simp
 ·have hw:IntKind.i64.wrap (s+x)>4000000000000000000∨IntKind.i64.wrap (s+x)<0:=by rw [IntKind.wrap_i64];omega
  rw [runR,if_neg hneg,if_pos hw]
  exact ⟨by omega,by simp,⟨by simp [h.len],hlt,hnn,.inr ⟨by omega,rfl,by simp⟩⟩⟩
theorem any_neg {l:List Int} {x:Int} (hx:x∈l) (h:x<0):l.any (fun p=>decide (p<0))=true:=by
 rw [List.any_eq_true];exact ⟨x,hx,by simpa using h⟩
theorem any_nonneg {l:List Int} (h:∀ x,x∈l→0≤x):¬ (l.any (fun p=>decide (p<0))=true):=by
 rw [List.any_eq_true];rintro ⟨x,hx,h2⟩;have:=h x hx;simp at h2;omega
theorem psums_le {l:List Int} (h:∀ x,x∈l→0≤x):∀ (n:Int),0≤n→∀ s,s∈psums n l→0≤s∧s≤n+l.sum:=by
 induction l with
 |nil=>intro n _ s hs;simp [psums] at hs
 |cons p r ih =>
  intro n hn s hs
  have hp:=h p (by simp)
  have hr:=sum_nonneg (l:=r) (fun x hx=>h x (by simp [hx]))
  simp only [psums,List.mem_cons] at hs
  simp only [List.sum_cons]
  rcases hs with rfl|hs
  ·omega
  ·have:=ih (fun x hx=>h x (by simp [hx])) (n+p) (by omega) s hs
   omega
theorem sSplit (m:Int) (l:List Int) (hm:m≤9223372036854775807) (hl:l.length≤9223372036854775807) (hx:∀ x,x∈l→x≤9223372036854775807) :
  Ctr Tryz.prog 85 [.d (.int .i64 m),.d (slK .i64 l)] [] (.tup [.d (slK .i64 (splitR m l).1),.d (.int .i64 (splitR m l).2)]) [] []:=by
 refine qP Tryz.func85 fun c hP hfn=>?_;simp only [vcd,↓vcp,seval]
 refine ⟨fun h=>?_,fun h=>?_⟩
 ·have h':m<0∨2000<l.length:=by simp only [Bool.or_eq_true,decide_eq_true_eq] at h;omega
  (refine rp (VLe.tups ?_);simp only [rsb,vcd,↓vcp,seval])
  rw [splitR,if_pos h'];exact ⟨nilK,VLe.refl _,trivial⟩
 have h0:¬ (m<0∨2000<l.length):=by simp only [Bool.or_eq_false_iff,decide_eq_false_iff_not] at h;omega
 clear h
 refine TR.call [] [(1,.fix [.d (.int .i64 0)])] _ [1] (hP▸sRun) (by repeat' first|exact trivial|(intro _;assumption)|apply And.intro) (by simp) (by simp [keysO]) (by simp) ?_
 simp only [vcd,↓vcp,seval]
 repeat' first|refine ⟨fun h=>?_,fun h=>?_⟩|refine aX ?_|fail
 refine vcC.loop (X:=Nat×List Int×Int×Bool) (fun x=>⟨[(8,.osl 1000),(0,.d (.int .i64 m)),(6,.fn (.func 164) [] [.own 1 0]),(7,.d (.bool x.2.2.2)),(33,.d (slK .i64 l)),(34,.d (.int .i64 l.length)),(35,.d (.int .i64 x.1))],
    [(1000,.row 3 1 x.2.1.length (fun i=>[.int .i64 (x.2.1.getD i 0)])),(1,.fix [.d (.int .i64 x.2.2.1)])],[1000,1]⟩)
   (fun x=>SpI m l x.1 x.2.1 x.2.2.1 x.2.2.2) (fun x=>l.length-x.1) (0,[],0,decide (m>4000000000000000000)) ⟨rfl,Nat.zero_le _,by simp,.inl ⟨by simp,by simp,by simp [psums],rfl⟩⟩
   (Wk.snoc (k:=32) _ hfn rfl rfl rfl rfl (OLe.row rfl (fun i hi=>absurd hi (Nat.not_lt_zero i))) (by (simp only [enb,vcd,↓vcp,seval])<;>(first|exact wS (by omega)|(rw [List.length_append];exact wS (by omega))|assumption)) (by simp only [enb,vcd,↓vcp,seval]) (by simp) (by simp only [enb,vcd,↓vcp,seval]) (by simp only [enb,vcd,↓vcp,seval])) ?_
 rintro ⟨k,dn,s,over⟩ hk
 simp only at hk
 simp only [vcd,↓vcp,seval]
 refine ⟨fun h1=>?_,fun h1=>?_⟩
 ·have hlt:k<l.length:=by have:=of_decide_eq_true h1;omega
  obtain ⟨x,hd,hg,hmx,hat⟩:=drop_at hlt
  have hst:=spI_step hk hlt hat (hx x hmx)
  simp only [hg]
  repeat' first|refine ⟨fun h=>?_,fun h=>?_⟩|refine aX ?_|fail
  refine TR.cv1 hP rfl (sRun1 s x) trivial (by repeat' first|exact trivial|(intro _;assumption)|apply And.intro) (by simp only [vcd,↓vcp,seval]) ?_
  simp only [vcd,↓vcp,seval]
  have hdl:=hk.len
  repeat' first|refine ⟨fun h=>?_,fun h=>?_⟩|refine aX ?_|fail
  ·have he:(runR s x).1.2=1:=eq_of_beq h
   have hneg:x<0:=by rcases hst with h|h;exact h.2;exact absurd he h.2.1
   (refine rp (VLe.tups ?_);simp only [rsb,vcd,↓vcp,seval])
   rw [splitR,if_neg h0,if_pos (any_neg hmx hneg),he];exact ⟨nilK,VLe.refl _,trivial⟩
  ·have hne:(runR s x).1.2≠1:=by simpa using h
   have hst2:SpI m l (k+1) (dn++[(runR s x).1.1]) (runR s x).2 (over || ((runR s x).1.2 == 5)):=by
    rcases hst with h|h
    ·exact absurd h.1 hne
    ·exact h.2.2
   exact lopK.on (k+1,dn++[(runR s x).1.1],(runR s x).2,(over || ((runR s x).1.2 == 5))) hst2 (by simp only;omega) (Wk.snoc (k:=56) _ hfn rfl rfl rfl rfl (OLe.app1 (cells:=fun n=>[.int .i64 n]) (fun i hi=>by simp only [if_pos hi]) (by simp)) (by (simp only [enb,vcd,↓vcp,seval])<;>(first|exact wS (by omega)|(rw [List.length_append];exact wS (by omega))|assumption)) (by simp only [enb,vcd,↓vcp,seval]) (by simp) (by simp only [enb,vcd,↓vcp,seval]) (by simp only [enb,vcd,↓vcp,seval]))
 have hkl:k=l.length:=by have:=of_decide_eq_false h1;have:=hk.le;omega
 have hnn:=hk.nn
 have hst:=hk.st
 have hdl:=hk.len
 rw [hkl,List.take_length] at hnn hst
 rw [hkl] at hdl
 clear hk h1
 refine ⟨fun h2=>?_,fun h2=>?_⟩
 ·have h2':4000000000000000000<l.sum∨4000000000000000000<m:=by
   subst h2
   rcases hst with h|h
   ·have:=of_decide_eq_true h.2.2.2.symm;omega
   ·omega
  (refine rp (VLe.tups ?_);simp only [rsb,vcd,↓vcp,seval])
  rw [splitR,if_neg h0,if_neg (any_nonneg hnn),if_pos h2'];exact ⟨nilK,VLe.refl _,trivial⟩
 have hst:l.sum≤4000000000000000000∧dn=psums 0 l∧¬ (m>4000000000000000000):=by
  subst h2
  rcases hst with h|h
  ·exact ⟨h.1,h.2.2.1,of_decide_eq_false h.2.2.2.symm⟩
  ·cases h.2.2
 have h2':¬ (4000000000000000000<l.sum∨4000000000000000000<m):=by omega
 have hS0:=sum_nonneg hnn
 have hbase:splitR m l=if l.sum=0 then ([],6) else (deal2 m l.sum 0 (psums 0 l),0):=by
  rw [splitR,if_neg h0,if_neg (any_nonneg hnn),if_neg h2']
 have hlast:0<l.length→dn.getD (dn.length-1) 0=l.sum:=fun h=>by
  rw [hdl,hst.2.1,psums_last h];omega
 have e1:0<l.length→IntKind.i64.wrap ((dn.length:Int)-1)=((dn.length-1:Nat):Int):=fun h=>(wI (by omega)).trans (by omega)
 rcases Nat.eq_zero_or_pos l.length with hz|hpos
 ·have hd0:dn.length=0:=by omega
  refine ⟨fun h=>?_,fun h=>?_,fun h=>?_,fun h=>?_⟩
  ·exfalso;simp [hd0] at h
  ·exfalso;simp [hd0] at h
  ·have hl0:l=[]:=List.eq_nil_of_length_eq_zero hz
   (refine rp (VLe.tups ?_);simp only [rsb,vcd,↓vcp,seval])
   rw [hbase,if_pos (by rw [hl0];rfl)];exact ⟨nilK,VLe.refl _,trivial⟩
  ·exfalso;simp [hd0] at h
 simp only [e1 hpos,Int.toNat_natCast,hlast hpos]
 refine ⟨fun _=>⟨by omega,by omega⟩,fun _=>by omega,fun h=>?_,fun h=>?_⟩
 ·have h':l.sum=0:=by
   simp only [Bool.or_eq_true,beq_iff_eq] at h;omega
  (refine rp (VLe.tups ?_);simp only [rsb,vcd,↓vcp,seval])
  rw [hbase,if_pos h'];exact ⟨nilK,VLe.refl _,trivial⟩
 have hSn:¬ l.sum=0:=by
  simp only [Bool.or_eq_false_iff,beq_eq_false_iff_ne,ne_eq] at h;exact h.2
 clear h
 rw [if_neg hSn] at hbase
 repeat' first|refine ⟨fun h=>?_,fun h=>?_⟩|refine aX ?_|fail
 refine vcC.loop (X:=List Int×Int) (fun x=>⟨[(0,.d (.int .i64 m)),(13,.d (.int .i64 l.sum)),(14,.osl 81),(15,.d (.int .i64 x.2)),(82,.osl 1000),(83,.d (.int .i64 dn.length)),(84,.d (.int .i64 x.1.length))],
    [(1000,.row 3 1 dn.length (fun i=>[.int .i64 (dn.getD i 0)])),(81,.row 3 1 dn.length (fun i=>[.int .i64 (x.1.getD i 0)]))],[1000,81]⟩)
   (fun x=>x.1.length≤dn.length∧deal2 m l.sum 0 dn=x.1++deal2 m l.sum x.2 (dn.drop x.1.length)) (fun x=>dn.length-x.1.length) ([],0) ⟨Nat.zero_le _,rfl⟩
   (Wk.of _ hfn rfl (by simp only [enb,vcd,↓vcp,seval]) (by simp only [enb,vcd,↓vcp,seval];exact OLe.row rfl fun i _=>by simp)) ?_
 rintro ⟨out,dealt⟩ ⟨hk,he⟩
 simp only at hk he
 simp only [vcd,↓vcp,seval]
 refine ⟨fun h1=>?_,fun h1=>?_⟩
 ·have hlt:out.length<dn.length:=by have:=of_decide_eq_true h1;omega
  obtain ⟨x,hd,hg,hmx,hat⟩:=drop_at hlt
  have hxb:=psums_le hnn 0 (by omega) x (by rw [←hst.2.1];exact hmx)
  rw [hd,deal2] at he
  simp only [hg]
  repeat' first|(refine tq hP (h:=⟨_,fun _=>by exact sDown m x l.sum hm (by omega) (by omega),?_⟩);try simp only [hg,vcd,↓vcp,seval])|refine ⟨fun h=>?_,fun h=>?_⟩|refine aX ?_|fail
  exact lopK.on (out++[IntKind.i64.wrap ((downR m x l.sum).1-dealt)],(downR m x l.sum).1) ⟨by simp;omega,by rw [he];simp⟩ (by simp;omega) (Wk.of _ hfn rfl (by (simp only [enb,vcd,↓vcp,seval])<;>(first|exact wS (by omega)|(rw [List.length_append];exact wS (by omega))|assumption)) (by simp only [enb,vcd,↓vcp,seval];exact OLe.snoc))
 ·have hkl:out.length=dn.length:=by have:=of_decide_eq_false h1;omega
  rw [hkl,List.drop_length,deal2,List.append_nil] at he
  repeat' first|refine ⟨fun h=>?_,fun h=>?_⟩|refine aX ?_|fail
  refine rK (Wk.pub 81 rfl) trivial ?_
  simp only [rsb,vcd,↓vcp,seval]
  rw [hbase,←hst.2.1,he]
  exact VLe.tups ⟨VLe.sl hkl.symm (fun _=>rfl) id fun i hi=>rfl,VLe.refl _,trivial⟩
end Go.Proofs.YtmccbkekpjgdbaaGreat
end
section
namespace Go.Proofs.YtmccbkekpjgdbaaGreat
open Go.Bx
set_option maxRecDepth 10000
def leapN (y:Nat):Bool:=decide (y % 4=0∧(y % 100≠0∨y % 400=0))
def ylen (y:Nat):Nat:=if leapN y=true then 366 else 365
def feb (y:Nat):Nat:=if leapN y=true then 29 else 28
def mlen (y m:Nat):Nat:=if m=2 then feb y else if m=4∨m=6∨m=9∨m=11 then 30 else 31
def ahN (y:Nat):Nat:=(y-1601)*365+(y-1601) / 4-(y-1601) / 100+(y-1601) / 400
theorem leapN_iff {y:Nat}:leapN y=true↔(y % 4=0∧(y % 100≠0∨y % 400=0)):=by simp only [leapN,decide_eq_true_eq]
theorem ylen_or (y:Nat):(leapN y=true∧ylen y=366∧feb y=29)∨(¬ leapN y=true∧ylen y=365∧feb y=28):=by
 unfold ylen feb
 by_cases h:leapN y=true
 ·left;simp [h]
 ·right;simp [h]
theorem ah_succ {y:Nat} (h:1601≤y):ahN (y+1)=ahN y+ylen y:=by
 have hl:=@leapN_iff y
 have ho:=ylen_or y
 obtain ⟨n,rfl⟩:∃ n,y=1601+n:=⟨y-1601,by omega⟩
 unfold ahN
 rw [show 1601+n+1-1601=n+1 by omega,show 1601+n-1601=n by omega]
 have a1:(n+1) / 4=n / 4+(if n % 4=3 then 1 else 0):=by split<;>omega
 have a2:(n+1) / 100=n / 100+(if n % 100=99 then 1 else 0):=by split<;>omega
 have a3:(n+1) / 400=n / 400+(if n % 400=399 then 1 else 0):=by split<;>omega
 have b1:(1601+n) % 4=0↔n % 4=3:=by omega
 have b2:(1601+n) % 100=0↔n % 100=99:=by omega
 have b3:(1601+n) % 400=0↔n % 400=399:=by omega
 have b4:n % 100=99→n % 4=3:=by omega
 have b5:n % 400=399→n % 100=99:=by omega
 have b6:n / 100≤n / 4:=Nat.div_le_div_left (by omega) (by omega)
 rw [a1,a2,a3]
 rw [ne_eq,b1,b2,b3] at hl
 clear a1 a2 a3 b1 b2 b3
 generalize n / 4=q4 at *
 generalize n / 100=q1 at *
 generalize n / 400=q0 at *
 by_cases c1:n % 4=3
 ·by_cases c2:n % 100=99
  ·by_cases c3:n % 400=399
   ·rw [if_pos c1,if_pos c2,if_pos c3]
    have:=hl.2 ⟨c1,.inr c3⟩
    rcases ho with ⟨h1,h2,-⟩|⟨h1,h2,-⟩
    ·omega
    ·exact absurd this h1
   ·rw [if_pos c1,if_pos c2,if_neg c3]
    rcases ho with ⟨h1,h2,-⟩|⟨h1,h2,-⟩
    ·rcases (hl.1 h1).2 with g|g
     ·exact absurd c2 g
     ·exact absurd g c3
    ·omega
  ·have c3:¬ n % 400=399:=fun h=>c2 (b5 h)
   rw [if_pos c1,if_neg c2,if_neg c3]
   have:=hl.2 ⟨c1,.inl c2⟩
   rcases ho with ⟨h1,h2,-⟩|⟨h1,h2,-⟩
   ·omega
   ·exact absurd this h1
 ·have c2:¬ n % 100=99:=fun h=>c1 (b4 h)
  have c3:¬ n % 400=399:=fun h=>c2 (b5 h)
  rw [if_neg c1,if_neg c2,if_neg c3]
  rcases ho with ⟨h1,h2,-⟩|⟨h1,h2,-⟩
  ·exact absurd (hl.1 h1).1 c1
  ·omega
def msum (y:Nat):Nat→Nat
 |0=>0
 |m+1=>msum y m+mlen y (m+1)
theorem msum12 (y:Nat):msum y 12=ylen y:=by
 have ho:=ylen_or y
 simp only [msum,mlen]
 rcases ho with ⟨h1,h2,h3⟩|⟨h1,h2,h3⟩<;>simp [h2,h3]
theorem mlen_le (y m:Nat):28≤mlen y m∧mlen y m≤31:=by
 have ho:=ylen_or y
 unfold mlen
 split
 ·omega
 ·split<;>omega
theorem msum_le (y:Nat) {a b:Nat} (h:a≤b):msum y a≤msum y b:=by
  induction b with
  | zero => have : a = 0 := by omega
            subst this;exact Nat.le_refl _
  |succ b ih =>
    by_cases e:a=b+1
    · subst e;exact Nat.le_refl _
    · have:=ih (by omega);simp only [msum];omega
def yN (n:Nat):Nat:=if n≤ahN (1601+(n-1) / 365) then 1600+(n-1) / 365 else 1601+(n-1) / 365
theorem ah_at (q:Nat):ahN (1601+q)=q*365+q / 4-q / 100+q / 400:=by
 unfold ahN;rw [show 1601+q-1601=q by omega]
theorem yN_spec {n:Nat} (h1:1≤n) (h2:n≤292194):1601≤yN n∧yN n≤2400∧ahN (yN n)<n∧n≤ahN (yN n+1):=by
 unfold yN
 have hq:(n-1) / 365≤800:=by omega
 have hn:365*((n-1) / 365)+1≤n∧n≤365*((n-1) / 365)+365:=by omega
 generalize (n-1) / 365=q at *
 have e1:=ah_at q
 have e2:=ah_at (q+1)
 rw [show 1601+(q+1)=1601+q+1 by omega] at e2
 split
 ·rename_i h
  rw [e1] at h
  obtain ⟨p,rfl⟩:∃ p,q=p+1:=⟨q-1,by omega⟩
  have e3:=ah_at p
  rw [show 1600+(p+1)=1601+p by omega,e3,show 1601+p+1=1601+(p+1) by omega,e1]
  omega
 ·rename_i h
  rw [e1] at h
  rw [e1,e2]
  have:(q+1) / 100≤(q+1) / 4:=Nat.div_le_div_left (by omega) (by omega)
  have:q / 100≤q / 4:=Nat.div_le_div_left (by omega) (by omega)
  omega
theorem ah_mono {a b:Nat} (ha:1601≤a) (h:a≤b):ahN a≤ahN b:=by
 induction b with
 |zero=>omega
 |succ b ih =>
  by_cases e:a=b+1
  ·subst e;exact Nat.le_refl _
  ·have:=ih (by omega);rw [ah_succ (by omega)];omega
def mgo (y:Nat):Nat→Nat→Nat→Nat×Nat
 |0,m,r=>(m,r)
 |k+1,m,r=>if r≤mlen y m then (m,r) else mgo y k (m+1) (r-mlen y m)
theorem mgo_spec {y:Nat}:∀ {k m r:Nat},m+k=13→1≤m→1≤r→r+msum y (m-1)≤msum y 12 →
  m≤(mgo y k m r).1∧(mgo y k m r).1≤12∧1≤(mgo y k m r).2∧(mgo y k m r).2≤mlen y (mgo y k m r).1∧msum y ((mgo y k m r).1-1)+(mgo y k m r).2=msum y (m-1)+r
 |0,m,r,h1,h2,h3,h4=>by
  rw [show m-1=12 by omega] at h4;omega
 |k+1,m,r,h1,h2,h3,h4=>by
  rw [mgo]
  by_cases h:r≤mlen y m
  ·rw [if_pos h];exact ⟨Nat.le_refl _,by simp only;omega,h3,h,rfl⟩
  ·rw [if_neg h]
   obtain ⟨p,rfl⟩:∃ p,m=p+1:=⟨m-1,by omega⟩
   have e:msum y (p+1)=msum y p+mlen y (p+1):=rfl
   have ih:=mgo_spec (y:=y) (k:=k) (m:=p+1+1) (r:=r-mlen y (p+1)) (by omega) (by omega) (by omega) (by rw [show p+1+1-1=p+1 by omega,e];rw [show p+1-1=p by omega] at h4;omega)
   rw [show p+1+1-1=p+1 by omega,e] at ih
   rw [show p+1-1=p by omega]
   omega
def ofN (n:Nat):Nat×Nat×Nat:=(yN n,mgo (yN n) 12 1 (n-ahN (yN n)))
def numN (y m d:Nat):Nat:=ahN y+msum y (m-1)+d
theorem ofN_spec {n:Nat} (h1:1≤n) (h2:n≤292194):1601≤(ofN n).1∧(ofN n).1≤2400∧1≤(ofN n).2.1∧(ofN n).2.1≤12∧1≤(ofN n).2.2∧(ofN n).2.2≤mlen (ofN n).1 (ofN n).2.1∧numN (ofN n).1 (ofN n).2.1 (ofN n).2.2=n:=by
 obtain ⟨a,b,c,d⟩:=yN_spec h1 h2
 rw [ah_succ a] at d
 have hm:=msum12 (yN n)
 obtain ⟨p,q,r,s,t⟩:=mgo_spec (y:=yN n) (k:=12) (m:=1) (r:=n-ahN (yN n)) rfl (by omega) (by omega) (by simp only [Nat.sub_self,msum];simp only [msum] at hm;omega)
 simp only [Nat.sub_self,show msum (yN n) 0=0 from rfl] at t
 refine ⟨a,b,p,q,r,s,?_⟩
 unfold numN ofN
 simp only
 omega
def shiftT (n b:Nat):Nat:=((ofN n).1-1601)*12+((ofN n).2.1-1)+b
def shiftV (n b:Nat):Nat:=numN (1601+shiftT n b / 12) (shiftT n b % 12+1) (min (ofN n).2.2 (mlen (1601+shiftT n b / 12) (shiftT n b % 12+1)))
def shiftN (n:Int) (b:Nat):Int×Int:=
 if n<1∨292194<n then (0,3) else if 9600≤shiftT n.toNat b then (0,3) else (((shiftV n.toNat b:Nat):Int),0)
theorem numN_bounds {y m d:Nat} (hy:1601≤y) (hy2:y≤2400) (hm:1≤m) (hm2:m≤12) (hd:1≤d) (hd2:d≤mlen y m):1≤numN y m d∧numN y m d≤292194∧numN y m d≤ahN y+msum y m:=by
 obtain ⟨p,rfl⟩:∃ p,m=p+1:=⟨m-1,by omega⟩
 have e:msum y (p+1)=msum y p+mlen y (p+1):=rfl
 have h1:=msum_le y hm2
 rw [msum12] at h1
 have h2:=ah_succ hy
 have h3:=ah_mono (a:=y+1) (b:=2401) (by omega) (by omega)
 have h4:ahN 2401=292194:=by decide +kernel
 unfold numN
 rw [show p+1-1=p by omega]
 omega
theorem leap_eq (y:Nat):(((y:Int).tmod 4 == 0)&&(((y:Int).tmod 100 != 0) || ((y:Int).tmod 400 == 0)))=leapN y:=by
 have e1:(y:Int).tmod 4=((y % 4:Nat):Int):=tmod_nat y 4
 have e2:(y:Int).tmod 100=((y % 100:Nat):Int):=tmod_nat y 100
 have e3:(y:Int).tmod 400=((y % 400:Nat):Int):=tmod_nat y 400
 rw [e1,e2,e3,Bool.eq_iff_iff,leapN_iff]
 simp only [Bool.and_eq_true,Bool.or_eq_true,beq_iff_eq,bne_iff_ne,ne_eq]
 omega
theorem sLeap (y:Nat):Ctr Tryz.prog 133 [.d (.int .i64 (y:Int))] [] (.d (.bool (leapN y))) [] []:=by
 have e:=leap_eq y
 refine qP Tryz.func133 fun c hP hfn=>?_;simp only [vcd,↓vcp,seval]
 repeat' first|refine ⟨fun h=>?_,fun h=>?_⟩|refine aX ?_|fail
 (refine rq ?_;first|exact ⟨⟩|exact e)
def lenV (y:Nat):List V:=[.d (.int .i64 31),.d (.int .i64 (feb y:Nat)),.d (.int .i64 31),.d (.int .i64 30),.d (.int .i64 31),.d (.int .i64 30),.d (.int .i64 31),.d (.int .i64 31),.d (.int .i64 30),.d (.int .i64 31),.d (.int .i64 30),.d (.int .i64 31)]
theorem len_nth (y:Nat) {k:Nat} (h:k<12):nth [.d (.int .i64 31),.d (.int .i64 (feb y:Nat)),.d (.int .i64 31),.d (.int .i64 30),.d (.int .i64 31),.d (.int .i64 30),.d (.int .i64 31),.d (.int .i64 31),.d (.int .i64 30),.d (.int .i64 31),.d (.int .i64 30),.d (.int .i64 31)] k=.d (.int .i64 (mlen y (k+1):Nat)):=by
 have:k=0∨k=1∨k=2∨k=3∨k=4∨k=5∨k=6∨k=7∨k=8∨k=9∨k=10∨k=11:=by omega
 rcases this with rfl|rfl|rfl|rfl|rfl|rfl|rfl|rfl|rfl|rfl|rfl|rfl<;>rfl
theorem sLen (y:Nat):Ctr Tryz.prog 88 [.d (.int .i64 (y:Int))] [] (.ag (lenV y)) [] []:=by
 have ho:=ylen_or y
 have e0:IntKind.i64.wrap (28+1)=29:=wI (by omega)
 refine qP Tryz.func88 fun c hP hfn=>?_;simp only [e0,vcd,↓vcp,seval]
 repeat' first|(refine tq hP (h:=⟨_,fun _=>by exact sLeap y,?_⟩);try simp only [e0,vcd,↓vcp,seval])|refine ⟨fun h=>?_,fun h=>?_⟩|refine aX ?_|fail
 ·have hf:feb y=29:=by rcases ho with h'|h';exact h'.2.2;exact absurd h h'.1
  (refine rq ?_;first|exact ⟨⟩|(simp only [lenV,hf];exact VLe.refl _))
 ·have hf:feb y=28:=by rcases ho with h'|h';exact absurd h (by rw [h'.1];simp);exact h'.2.2
  (refine rq ?_;first|exact ⟨⟩|(simp only [lenV,hf];exact VLe.refl _))
theorem ah_int {y:Nat} (h1:1601≤y) (h2:y≤20000):IntKind.i64.wrap (IntKind.i64.wrap (IntKind.i64.wrap (IntKind.i64.wrap (IntKind.i64.wrap ((y:Int)-1601)*365)+IntKind.i64.wrap ((IntKind.i64.wrap ((y:Int)-1601)).tdiv 4))-IntKind.i64.wrap ((IntKind.i64.wrap ((y:Int)-1601)).tdiv 100))+IntKind.i64.wrap ((IntKind.i64.wrap ((y:Int)-1601)).tdiv 400))=(ahN y:Nat):=by
 obtain ⟨n,rfl⟩:∃ n,y=1601+n:=⟨y-1601,by omega⟩
 have e:IntKind.i64.wrap (((1601+n:Nat):Int)-1601)=(n:Int):=(wI (by omega)).trans (by omega)
 have e1:((n:Int)).tdiv 4=((n / 4:Nat):Int):=tdiv_nat n 4
 have e2:((n:Int)).tdiv 100=((n / 100:Nat):Int):=tdiv_nat n 100
 have e3:((n:Int)).tdiv 400=((n / 400:Nat):Int):=tdiv_nat n 400
 rw [e,e1,e2,e3,ah_at,wI (a:=((n / 4:Nat):Int)) (by omega),wI (a:=((n / 100:Nat):Int)) (by omega),wI (a:=((n / 400:Nat):Int)) (by omega),wI (a:=(n:Int)*365) (by omega),wI (a:=(n:Int)*365+((n / 4:Nat):Int)) (by omega),wI (a:=(n:Int)*365+((n / 4:Nat):Int)-((n / 100:Nat):Int)) (by omega),wI (by omega)]
 omega
theorem sAhead (y:Nat) (h1:1601≤y) (h2:y≤20000):Ctr Tryz.prog 29 [.d (.int .i64 (y:Int))] [] (.d (.int .i64 (ahN y:Nat))) [] []:=by
 have e:=ah_int h1 h2
 refine qP Tryz.func29 fun c hP hfn=>?_;simp only [vcd,↓vcp,seval]
 repeat' first|refine ⟨fun h=>?_,fun h=>?_⟩|refine aX ?_|fail
 (refine rq ?_;first|exact ⟨⟩|exact e)
def isD (n:Int):Bool:=decide (1≤n)&&decide (n≤292194)
theorem isD_iff {n:Int}:isD n=true↔1≤n∧n≤292194:=by simp only [isD,Bool.and_eq_true,decide_eq_true_eq]
theorem sIs (n:Int):Ctr Tryz.prog 58 [.d (.int .i64 n)] [] (.d (.bool (isD n))) [] []:=by
 refine qP Tryz.func58 fun c hP hfn=>?_;simp only [vcd,↓vcp,seval]
 exact rr
def yearD (n:Int):Int×Int:=if isD n=true then ((yN n.toNat:Nat),0) else (0,3)
theorem sYearD (n:Int):Ctr Tryz.prog 28 [.d (.int .i64 n)] [] (.tup [.d (.int .i64 (yearD n).1),.d (.int .i64 (yearD n).2)]) [] []:=by
 refine qP Tryz.func28 fun c hP hfn=>?_;simp only [vcd,↓vcp,seval]
 repeat' first|(refine tq hP (h:=⟨_,fun _=>by exact sIs n,?_⟩);try simp only [vcd,↓vcp,seval])|refine ⟨fun h=>?_,fun h=>?_⟩|refine aX ?_|fail
 ·(refine rp (VLe.tups ?_);simp only [rsb,vcd,↓vcp,seval])
  rw [yearD,if_neg (by simpa using h)];exact ⟨VLe.refl _,VLe.refl _,trivial⟩
 have hi:=isD_iff.1 (show isD n=true by simpa using h)
 have hd:yearD n=(((yN n.toNat:Nat):Int),0):=by rw [yearD,if_pos (by simpa using h)]
 obtain ⟨m,rfl⟩:∃ m:Nat,n=(m:Int):=⟨n.toNat,by omega⟩
 rw [Int.toNat_natCast] at hd
 have hs:=yN_spec (n:=m) (by omega) (by omega)
 have hy:yN m=if m≤ahN (1601+(m-1) / 365) then 1600+(m-1) / 365 else 1601+(m-1) / 365:=rfl
 have e1:IntKind.i64.wrap ((m:Int)-1)=((m-1:Nat):Int):=(wI (by omega)).trans (by omega)
 have e2:(((m-1:Nat):Int)).tdiv 365=(((m-1) / 365:Nat):Int):=tdiv_nat _ 365
 have e3:IntKind.i64.wrap (((m-1) / 365:Nat):Int)=(((m-1) / 365:Nat):Int):=wI (by omega)
 have e4:IntKind.i64.wrap (1601+(((m-1) / 365:Nat):Int))=((1601+(m-1) / 365:Nat):Int):=(wI (by omega)).trans (by omega)
 have hq:(m-1) / 365≤800:=by omega
 generalize (m-1) / 365=q at *
 clear h
 refine vcC.loop (X:=Nat) (fun y=>⟨[(0,.d (.int .i64 m)),(4,.d (.int .i64 y))],[],[]⟩) (fun y=>1601≤y∧y≤2401∧((yN m=if m≤ahN y then y-1 else y) )) (fun y=>y) (1601+q) ⟨by omega,by omega,by rw [hy,show 1601+q-1=1600+q by omega]⟩ (Wk.of [] hfn rfl (by simp only [enb,vcd,↓vcp,seval,e1,e2,e3,e4]) (by simp only [enb,vcd,↓vcp,seval])) ?_
 rintro y ⟨h1,h2,h3⟩
 simp only [vcd,↓vcp,seval]
 repeat' first|(refine tq hP (h:=⟨_,fun _=>by exact sAhead y h1 (by omega),?_⟩);try simp only [vcd,↓vcp,seval])|refine ⟨fun h=>?_,fun h=>?_⟩|refine aX ?_|fail
 ·have h':m≤ahN y:=by have:=of_decide_eq_true h;omega
  rw [if_pos h'] at h3
  have e5:IntKind.i64.wrap ((y:Int)-1)=((y-1:Nat):Int):=(wI (by omega)).trans (by omega)
  simp only [e5]
  exact lopK.on (y-1) ⟨by omega,by omega,by rw [←h3,if_neg (by omega)]⟩ (by omega) (Wk.of [] hfn rfl (by simp only [enb,vcd,↓vcp,seval]) (by simp only [enb,vcd,↓vcp,seval]))
 ·have h':¬ m≤ahN y:=by have:=of_decide_eq_false h;omega
  rw [if_neg h'] at h3
  (refine rp (VLe.tups ?_);simp only [rsb,vcd,↓vcp,seval])
  rw [hd,h3];exact ⟨VLe.refl _,VLe.refl _,trivial⟩
end Go.Proofs.YtmccbkekpjgdbaaGreat
end
section
namespace Go.Proofs.YtmccbkekpjgdbaaGreat
open Go.Bx
set_option maxRecDepth 10000
def ymd (t:Nat×Nat×Nat):List V:=[.d (.int .i64 (t.1:Nat)),.d (.int .i64 (t.2.1:Nat)),.d (.int .i64 (t.2.2:Nat))]
def ofD (n:Int):Nat×Nat×Nat:=if isD n=true then ofN n.toNat else (0,0,0)
def ofE (n:Int):Int:=if isD n=true then 0 else 3
set_option maxHeartbeats 1000000 in
theorem sOfD (n:Int):Ctr Tryz.prog 87 [.d (.int .i64 n)] [] (.tup [.ag (ymd (ofD n)),.d (.int .i64 (ofE n))]) [] []:=by
 refine qP Tryz.func87 fun c hP hfn=>?_;simp only [vcd,↓vcp,seval]
 by_cases hi:isD n=true
 ·have h12:=isD_iff.1 hi
  have e1:yearD n=(((yN n.toNat:Nat):Int),0):=by rw [yearD,if_pos hi]
  have e2:ofD n=ofN n.toNat:=by rw [ofD,if_pos hi]
  have e3:ofE n=0:=by rw [ofE,if_pos hi]
  have cy:=sYearD n
  rw [e1] at cy
  rw [e2,e3]
  obtain ⟨m,rfl⟩:∃ m:Nat,n=(m:Int):=⟨n.toNat,by omega⟩
  rw [Int.toNat_natCast] at *
  obtain ⟨a,b,p,q⟩:=yN_spec (n:=m) (by omega) (by omega)
  have hof:ofN m=(yN m,mgo (yN m) 12 1 (m-ahN (yN m))):=rfl
  have hq:m≤ahN (yN m)+msum (yN m) 12:=by rw [msum12,←ah_succ a];exact q
  have hq2:=ylen_or (yN m)
  rw [msum12] at hq
  generalize yN m=y at *
  have e4:IntKind.i64.wrap ((m:Int)-(ahN y:Nat))=((m-ahN y:Nat):Int):=(wI (by omega)).trans (by omega)
  have hr1:1≤m-ahN y:=by omega
  have hr2:m-ahN y≤366:=by omega
  have hr3:m-ahN y≤msum y 12:=by rw [msum12];omega
  generalize m-ahN y=r at *
  repeat' first|(refine tq hP (h:=⟨_,fun _=>by first|exact cy|exact sAhead y a (by omega)|exact sLen y,?_⟩);try simp only [e4,vcd,↓vcp,seval])|refine ⟨fun h=>?_,fun h=>?_⟩|refine aX ?_|fail
  all_goals try (cases h;done)
  refine vcC.loop (X:=Nat×Nat) (fun x=>⟨[(2,.own 2 0),(6,.own 6 0),(25,.ag (lenV y)),(26,.d (.int .i64 x.1))],[(2,.fix [.d (.int .i64 0),.d (.int .i64 0),.d (.int .i64 0)]),(6,.fix [.d (.int .i64 (y:Int)),.d (.int .i64 (x.1+1:Nat)),.d (.int .i64 x.2)])],[2,6]⟩)
   (fun x=>x.1≤12∧1≤x.2∧x.2≤366∧x.2+msum y x.1≤msum y 12∧mgo y 12 1 r=mgo y (12-x.1) (x.1+1) x.2) (fun x=>12-x.1) (0,r) ⟨by omega,hr1,hr2,by simpa [msum] using hr3,rfl⟩ (Wk.of [] hfn rfl (by simp only [enb,vcd,↓vcp,seval]) (by simp only [e4,enb,vcd,↓vcp,seval])) ?_
  rintro ⟨k,d⟩ ⟨hk,hd1,hd2,hd3,hg⟩
  simp only at hk hd1 hd2 hd3 hg
  simp only [lenV,vcd,↓vcp,seval]
  refine ⟨fun h1=>?_,fun h1=>?_⟩
  ·have hlt:k<12:=by have:=of_decide_eq_true h1;omega
   have hn:=len_nth y hlt
   have hml:=mlen_le y (k+1)
   have hms:msum y (k+1)=msum y k+mlen y (k+1):=rfl
   have hmx:=msum_le y (show k+1≤12 from hlt)
   have hmg:mgo y (12-k) (k+1) d=if d≤mlen y (k+1) then (k+1,d) else mgo y (12-(k+1)) (k+1+1) (d-mlen y (k+1)):=by
    rw [show 12-k=(12-(k+1))+1 by omega,mgo]
   rw [hmg] at hg
   simp only [hn,vcd,↓vcp,seval]
   repeat' first|refine ⟨fun h=>?_,fun h=>?_⟩|refine aX ?_|fail
   ·have h':d≤mlen y (k+1):=by have:=of_decide_eq_true h;omega
    rw [if_pos h'] at hg
    (refine rp (VLe.tups ?_);simp only [rsb,vcd,↓vcp,seval])
    rw [hof,hg];exact ⟨VLe.refl _,VLe.refl _,trivial⟩
   ·have h':¬ d≤mlen y (k+1):=by have:=of_decide_eq_false h;omega
    rw [if_neg h'] at hg
    have e5:IntKind.i64.wrap ((d:Int)-(mlen y (k+1):Nat))=((d-mlen y (k+1):Nat):Int):=(wI (by omega)).trans (by omega)
    have e6:IntKind.i64.wrap (((k+1:Nat):Int)+1)=((k+1+1:Nat):Int):=(wI (by omega)).trans (by omega)
    simp only [e5,e6]
    exact lopK.on (k+1,d-mlen y (k+1)) ⟨hlt,by simp only;omega,by simp only;omega,by simp only;omega,hg⟩ (by simp only;omega) (Wk.of [] hfn rfl (by (simp only [lenV,enb,vcd,↓vcp,seval])<;>(first|exact wS (by omega)|(rw [List.length_append];exact wS (by omega))|assumption)) (by simp only [enb,vcd,↓vcp,seval]))
  ·have hk12:k=12:=by have:=of_decide_eq_false h1;omega
   subst hk12;omega
 ·have e1:yearD n=(0,3):=by rw [yearD,if_neg hi]
  have e2:ofD n=(0,0,0):=by rw [ofD,if_neg hi]
  have e3:ofE n=3:=by rw [ofE,if_neg hi]
  have cy:=sYearD n
  rw [e1] at cy
  repeat' first|(refine tq hP (h:=⟨_,fun _=>by exact cy,?_⟩);try simp only [vcd,↓vcp,seval])|refine ⟨fun h=>?_,fun h=>?_⟩|refine aX ?_|fail
  ·(refine rp (VLe.tups ?_);simp only [rsb,vcd,↓vcp,seval])
   rw [e2,e3];exact ⟨VLe.refl _,VLe.refl _,trivial⟩
  all_goals try (cases h;done)
structure Dy (y m d:Nat):Prop where
 y1:1601≤y
 y2:y≤2400
 m1:1≤m
 m2:m≤12
 d1:1≤d
 d2:d≤mlen y m
theorem sRightD (y m d:Nat) (h:Dy y m d):Ctr Tryz.prog 134 [.ag [.d (.int .i64 (y:Int)),.d (.int .i64 (m:Int)),.d (.int .i64 (d:Int))]] [] (.d (.bool true)) [] []:=by
 obtain ⟨y1,y2,m1,m2,d1,d2⟩:=h
 have hn:=len_nth y (show m-1<12 by omega)
 rw [show m-1+1=m by omega] at hn
 have hml:=mlen_le y m
 have e1:IntKind.i64.wrap ((m:Int)-1)=((m-1:Nat):Int):=(wI (by omega)).trans (by omega)
 have cl:=sLen y
 simp only [lenV] at cl
 refine qP Tryz.func134 fun c hP hfn=>?_;simp only [e1,vcd,↓vcp,seval]
 repeat' first|(refine tq hP (h:=⟨_,fun _=>by exact cl,?_⟩);try simp only [e1,hn,vcd,↓vcp,seval])|refine ⟨fun h=>?_,fun h=>?_⟩|refine aX ?_|fail
 ·exfalso;simp only [Bool.or_eq_true,decide_eq_true_eq] at h;omega
 ·(refine rq ?_;first|exact ⟨⟩|(simp only [Bool.and_eq_true,decide_eq_true_eq];omega))
set_option maxHeartbeats 1000000 in
theorem sNumD (y m d:Nat) (h:Dy y m d):Ctr Tryz.prog 89 [.ag [.d (.int .i64 (y:Int)),.d (.int .i64 (m:Int)),.d (.int .i64 (d:Int))]] [] (.tup [.d (.int .i64 (numN y m d:Nat)),.d (.int .i64 0)]) [] []:=by
 have cr:=sRightD y m d h
 have hb:=numN_bounds h.y1 h.y2 h.m1 h.m2 h.d1 h.d2
 obtain ⟨y1,y2,m1,m2,d1,d2⟩:=h
 have hml:=mlen_le y m
 have cl:=sLen y
 have ca:=sAhead y y1 (by omega)
 simp only [lenV] at cl
 have hnum:numN y m d=ahN y+msum y (m-1)+d:=rfl
 have hah:ahN y≤292194:=by unfold numN at hb;omega
 have e1:IntKind.i64.wrap ((m:Int)-1)=((m-1:Nat):Int):=(wI (by omega)).trans (by omega)
 have e2:IntKind.i64.wrap ((ahN y:Int)+(d:Int))=((ahN y+d:Nat):Int):=(wI (by omega)).trans (by omega)
 refine qP Tryz.func89 fun c hP hfn=>?_;simp only [vcd,↓vcp,seval]
 repeat' first|(refine tq hP (h:=⟨_,fun _=>by first|exact cr|exact cl|exact ca,?_⟩);try simp only [e1,e2,vcd,↓vcp,seval])|refine ⟨fun h=>?_,fun h=>?_⟩|refine aX ?_|fail
 refine vcC.loop (X:=Nat) (fun k=>⟨[(4,.own 4 0),(5,.d (.int .i64 (ahN y+d+msum y k:Nat))),(21,.d (.int .i64 (m-1:Nat))),(22,.d (.int .i64 k))],[(4,.fix (lenV y))],[4]⟩)
  (fun k=>k≤m-1) (fun k=>m-1-k) 0 (by omega) (Wk.of [] hfn rfl (by simp only [msum,e1,e2,enb,vcd,↓vcp,seval]) (by simp only [lenV,enb,vcd,↓vcp,seval])) ?_
 intro k hk
 simp only [lenV,vcd,↓vcp,seval]
 refine ⟨fun h1=>?_,fun h1=>?_⟩
 ·have hlt:k<m-1:=by have:=of_decide_eq_true h1;omega
  have hn:=len_nth y (show k<12 by omega)
  have hms:msum y (k+1)=msum y k+mlen y (k+1):=rfl
  have hmx:=msum_le y (show k+1≤12 by omega)
  rw [msum12] at hmx
  have hyl:=ylen_or y
  have e3:IntKind.i64.wrap (((ahN y+d+msum y k:Nat):Int)+(mlen y (k+1):Nat))=((ahN y+d+msum y (k+1):Nat):Int):=(wI (by omega)).trans (by omega)
  simp only [hn,e3,vcd,↓vcp,seval]
  repeat' first|refine ⟨fun h=>?_,fun h=>?_⟩|refine aX ?_|fail
  exact lopK.on (k+1) (by omega) (by omega) (Wk.of [] hfn rfl (by (simp only [lenV,enb,vcd,↓vcp,seval])<;>(first|exact wS (by omega)|(rw [List.length_append];exact wS (by omega))|assumption)) (by simp only [lenV,enb,vcd,↓vcp,seval]))
 ·have hkl:k=m-1:=by have:=of_decide_eq_false h1;omega
  subst hkl
  repeat' first|refine ⟨fun h=>?_,fun h=>?_⟩|refine aX ?_|fail
  (refine rp (VLe.tups ?_);simp only [rsb,vcd,↓vcp,seval])
  rw [hnum,show ahN y+msum y (m-1)+d=ahN y+d+msum y (m-1) by omega];exact ⟨VLe.refl _,VLe.refl _,trivial⟩
theorem shift_dy {n b:Nat} (h1:1≤n) (h2:n≤292194) (h3:shiftT n b<9600):Dy (1601+shiftT n b / 12) (shiftT n b % 12+1) (min (ofN n).2.2 (mlen (1601+shiftT n b / 12) (shiftT n b % 12+1))):=by
 have hs:=ofN_spec h1 h2
 have hml:=mlen_le (1601+shiftT n b / 12) (shiftT n b % 12+1)
 generalize shiftT n b=t at *
 exact ⟨by omega,by omega,by omega,by omega,by omega,Nat.min_le_right _ _⟩
set_option maxHeartbeats 1000000 in
theorem sShift (n:Int) (b:Nat) (hb:b≤9600):Ctr Tryz.prog 45 [.d (.int .i64 n),.d (.int .i64 (b:Int))] [] (.tup [.d (.int .i64 (shiftN n b).1),.d (.int .i64 (shiftN n b).2)]) [] []:=by
 have co:=sOfD n
 have e0:IntKind.i64.wrap (0-9600)=-9600:=wI (by omega)
 by_cases hi:isD n=true
 ·have h12:=isD_iff.1 hi
  rw [ofD,if_pos hi,ofE,if_pos hi] at co
  obtain ⟨m,rfl⟩:∃ m:Nat,n=(m:Int):=⟨n.toNat,by omega⟩
  rw [Int.toNat_natCast] at co
  have hs:=ofN_spec (n:=m) (by omega) (by omega)
  have hd:=shift_dy (n:=m) (b:=b) (by omega) (by omega)
  have hsh:shiftN (m:Int) b=if 9600≤shiftT m b then (0,3) else (((shiftV m b:Nat):Int),0):=by rw [shiftN,if_neg (by omega),Int.toNat_natCast]
  have ht:shiftT m b=((ofN m).1-1601)*12+((ofN m).2.1-1)+b:=rfl
  have hv:shiftV m b=numN (1601+shiftT m b / 12) (shiftT m b % 12+1) (min (ofN m).2.2 (mlen (1601+shiftT m b / 12) (shiftT m b % 12+1))):=rfl
  generalize shiftT m b=t at *
  generalize shiftV m b=v at *
  obtain ⟨⟨y,mo,d⟩,hof⟩:∃ p,ofN m=p:=⟨_,rfl⟩
  rw [hof] at co hs hd ht hv
  simp only at hs hd ht hv
  simp only [ymd] at co
  obtain ⟨y1,y2,m1,m2,d1,d2,-⟩:=hs
  have hml:=mlen_le y mo
  have e1:IntKind.i64.wrap ((y:Int)-1601)=((y-1601:Nat):Int):=(wI (by omega)).trans (by omega)
  have e2:IntKind.i64.wrap (((y-1601:Nat):Int)*12)=(((y-1601)*12:Nat):Int):=(wI (by omega)).trans (by omega)
  have e3:IntKind.i64.wrap ((((y-1601)*12:Nat):Int)+(mo:Int))=(((y-1601)*12+mo:Nat):Int):=(wI (by omega)).trans (by omega)
  have e4:IntKind.i64.wrap ((((y-1601)*12+mo:Nat):Int)-1)=(((y-1601)*12+mo-1:Nat):Int):=(wI (by omega)).trans (by omega)
  have e5:IntKind.i64.wrap ((((y-1601)*12+mo-1:Nat):Int)+(b:Int))=(t:Int):=(wI (by omega)).trans (by omega)
  have htb:t≤20000:=by omega
  have e6:((t:Int)).tdiv 12=((t / 12:Nat):Int):=tdiv_nat t 12
  have e7:((t:Int)).tmod 12=((t % 12:Nat):Int):=tmod_nat t 12
  have e8:IntKind.i64.wrap ((t / 12:Nat):Int)=((t / 12:Nat):Int):=wI (by omega)
  have e9:IntKind.i64.wrap (1601+((t / 12:Nat):Int))=((1601+t / 12:Nat):Int):=(wI (by omega)).trans (by omega)
  have e10:IntKind.i64.wrap (((t % 12:Nat):Int)+1)=((t % 12+1:Nat):Int):=(wI (by omega)).trans (by omega)
  have e11:IntKind.i64.wrap (((t % 12+1:Nat):Int)-1)=((t % 12:Nat):Int):=(wI (by omega)).trans (by omega)
  have hn:=len_nth (1601+t / 12) (show t % 12<12 by omega)
  have e12:min (d:Int) (mlen (1601+t / 12) (t % 12+1):Nat)=((min d (mlen (1601+t / 12) (t % 12+1)):Nat):Int):=by omega
  have cl:=sLen (1601+t / 12)
  simp only [lenV] at cl
  clear ht
  refine qP Tryz.func45 fun c hP hfn=>?_;simp only [e0,e1,e2,e3,e4,e5,e6,e7,e8,e9,e10,e11,vcd,↓vcp,seval]
  repeat' first|(refine tq hP (h:=⟨_,fun _=>by exact co,?_⟩);try simp only [e0,e1,e2,e3,e4,e5,e6,e7,e8,e9,e10,e11,vcd,↓vcp,seval])|refine ⟨fun h=>?_,fun h=>?_⟩|refine aX ?_|fail
  ·exfalso;have e9:IntKind.i64.wrap (-9600)=-9600:=by decide
   simp only [bne_self_eq_false,Bool.false_or,Bool.or_eq_true,decide_eq_true_eq] at h;omega
  ·have h':9600≤t:=by simp only [Bool.or_eq_true,decide_eq_true_eq] at h;omega
   (refine rp (VLe.tups ?_);simp only [rsb,vcd,↓vcp,seval])
   rw [hsh,if_pos h'];exact ⟨VLe.refl _,VLe.refl _,trivial⟩
  ·have h':¬ 9600≤t:=by simp only [Bool.or_eq_false_iff,decide_eq_false_iff_not] at h;omega
   have cn:=sNumD _ _ _ (hd (by omega))
   rw [if_neg h'] at hsh
   clear h
   repeat' first|(refine tq hP (h:=⟨_,fun _=>by exact cl,?_⟩);try simp only [e9,e10,e11,hn,e12,vcd,↓vcp,seval])|refine ⟨fun h=>?_,fun h=>?_⟩|refine aX ?_|fail
   repeat' first|(refine tq hP (h:=⟨_,fun _=>by exact cn,?_⟩);try simp only [vcd,↓vcp,seval])|refine ⟨fun h=>?_,fun h=>?_⟩|refine aX ?_|fail
   (refine rp (VLe.tups ?_);simp only [rsb,vcd,↓vcp,seval])
   rw [hsh,hv];exact ⟨VLe.refl _,VLe.refl _,trivial⟩
 ·rw [ofD,if_neg hi,ofE,if_neg hi] at co
  simp only [ymd] at co
  have hsh:shiftN n b=(0,3):=by
   have:=@isD_iff n
   rw [shiftN,if_pos]
   by_cases h1:n<1
   ·exact .inl h1
   ·right
    by_cases h2:n≤292194
    ·exact absurd (this.2 ⟨by omega,h2⟩) hi
    ·omega
  refine qP Tryz.func45 fun c hP hfn=>?_;simp only [e0,vcd,↓vcp,seval]
  repeat' first|(refine tq hP (h:=⟨_,fun _=>by exact co,?_⟩);try simp only [e0,vcd,↓vcp,seval])|refine ⟨fun h=>?_,fun h=>?_⟩|refine aX ?_|fail
  ·(refine rp (VLe.tups ?_);simp only [rsb,vcd,↓vcp,seval])
   rw [hsh];exact ⟨VLe.refl _,VLe.refl _,trivial⟩
  all_goals try (rename_i g;exfalso;simp at g;done)
  all_goals try (rename_i g;exfalso;simp at g;done)
end Go.Proofs.YtmccbkekpjgdbaaGreat
end
section
namespace Go.Proofs.YtmccbkekpjgdbaaGreat
open Go.Bx
def okS (f t:Int):Bool:=decide (f≥1)&&decide (f≤t)&&decide (t≤292195)
def keptR (f t:Int):Int×Int:=if (!(okS f t) || f == t)=true then (0,0) else (f,t)
def manyR (f t:Int):Int:=IntKind.i64.wrap ((keptR f t).2-(keptR f t).1)
def vS (f t:Int):V:=.ag [.d (.int .i64 f),.d (.int .i64 t)]
theorem sSpanRight (f t:Int):Ctr Tryz.prog 107 [vS f t] [] (.d (.bool (okS f t))) [] []:=by
 refine qP Tryz.func107 fun c hP hfn=>?_;simp only [vS,vcd,↓vcp,seval]
 exact rp (by simp only [rsb,enb,vcd,↓vcp,seval,okS])
theorem sKept (f t:Int):Ctr Tryz.prog 84 [vS f t] [] (vS (keptR f t).1 (keptR f t).2) [] []:=by
 refine qP Tryz.func84 fun c hP hfn=>?_;simp only [vS,vcd,↓vcp,seval]
 repeat' first|(refine tq hP (h:=⟨_,fun _=>by exact sSpanRight ..,?_⟩);try simp only [vcd,↓vcp,seval])|refine ⟨fun h=>?_,fun h=>?_⟩|refine aX ?_|fail
 all_goals exact rp (by simp only [rsb,enb,vcd,↓vcp,seval,keptR,vS, *])
theorem sMany (f t:Int):Ctr Tryz.prog 43 [vS f t] [] (.d (.int .i64 (manyR f t))) [] []:=by
 refine qP Tryz.func43 fun c hP hfn=>?_;simp only [vS,vcd,↓vcp,seval]
 repeat' first|(refine tq hP (h:=⟨_,fun _=>by exact sKept ..,?_⟩);try simp only [vS,vcd,↓vcp,seval])|refine ⟨fun h=>?_,fun h=>?_⟩|refine aX ?_|fail
 exact rp (by simp only [rsb,enb,vcd,↓vcp,seval,manyR])
end Go.Proofs.YtmccbkekpjgdbaaGreat
end
section
namespace Go.Proofs.YtmccbkekpjgdbaaGreat
open Go.Bx
set_option maxRecDepth 10000
def idxE (x:Int):Nat→List Int→Int
 |_,[]=>-1
 |k,y::r=>if x=y then (k:Int) else idxE x (k+1) r
theorem idxE_mem (x:Int):∀ (l:List Int) (k:Nat),decide (idxE x k l≥0)=decide (x∈l)
 |[],k=>by simp [idxE]
 |y::r,k=>by
  by_cases h:x=y
  ·simp [idxE,h]
  ·simp [idxE,h];simpa using idxE_mem x r (k+1)
theorem sIndex (l:List Int) (x:Int) (hl:l.length≤9223372036854775807):Ctr Tryz.prog 83 [.d (slK .i64 l),.d (.int .i64 x)] [] (.d (.int .i64 (idxE x 0 l))) [] []:=by
 refine qP Tryz.func83 fun c hP hfn=>?_;simp only [vcd,↓vcp,seval]
 refine vcC.loop (X:=Nat) (fun k=>⟨[(0,.d (slK .i64 l)),(1,.d (.int .i64 x)),(7,.d (.int .i64 l.length)),(8,.d (.int .i64 k))],[],[]⟩)
  (fun k=>k≤l.length∧idxE x 0 l=idxE x k (l.drop k)) (fun k=>l.length-k) 0 ⟨Nat.zero_le _,rfl⟩ (Wk.of [] hfn rfl (by (simp only [enb,vcd,↓vcp,seval])<;>(first|exact wS (by omega)|(rw [List.length_append];exact wS (by omega))|assumption)) (by simp only [enb,vcd,↓vcp,seval])) ?_
 rintro k ⟨hk,he⟩
 simp only [vcd,↓vcp,seval]
 refine ⟨fun h1=>?_,fun h1=>?_⟩
 ·have hlt:k<l.length:=by simpa using h1
  obtain ⟨y,hd,hg,-,-⟩:=drop_at hlt
  rw [hd,idxE] at he
  simp only [hg,vcd,↓vcp,seval]
  repeat' first|refine ⟨fun h=>?_,fun h=>?_⟩|refine aX ?_|fail
  ·(refine rq ?_;first|exact ⟨⟩|rw [he,if_pos (eq_of_beq h)])
  ·rw [if_neg (by simpa using h)] at he
   exact lopK.on (k+1) ⟨hlt,he⟩ (by omega) (Wk.of [] hfn rfl (by (simp only [enb,vcd,↓vcp,seval])<;>(first|exact wS (by omega)|(rw [List.length_append];exact wS (by omega))|assumption)) (by simp only [enb,vcd,↓vcp,seval]))
 ·have hkl:k=l.length:=by simp at h1;omega
  rw [hkl] at he
  (refine rq ?_;first|exact ⟨⟩|simp [he,idxE])
theorem sContains (l:List Int) (x:Int) (hl:l.length≤9223372036854775807):Ctr Tryz.prog 42 [.d (slK .i64 l),.d (.int .i64 x)] [] (.d (.bool (decide (x∈l)))) [] []:=by
 refine qP Tryz.func42 fun c hP hfn=>?_;simp only [vcd,↓vcp,seval]
 repeat' first|(refine tq hP (h:=⟨_,fun _=>by exact sIndex l x hl,?_⟩);try simp only [vcd,↓vcp,seval])|refine ⟨fun h=>?_,fun h=>?_⟩|refine aX ?_|fail
 (refine rq ?_;first|exact ⟨⟩|exact idxE_mem x l 0)
theorem sContains' {full:Bool} {n:Nat} {ds:List D} {l:List Int} {x:Int} (h:LitI .i64 ds l) (hn:n=l.length) (hl:l.length≤9223372036854775807):Ctr Tryz.prog 42 [.d (.sl full 1 n (litRow 1 ds)),.d (.int .i64 x)] [] (.d (.bool (decide (x∈l)))) [] []:=
 (sContains l x hl).arg ⟨h.vle hn,VLe.refl _,trivial⟩
theorem sMulU (x y:Nat) (hx:x<18446744073709551616) (hy:y<18446744073709551616):Ctr Tryz.prog 132 [.d (.int .u64 x),.d (.int .u64 y)] [] (.tup [.d (.int .u64 ((x*y / 18446744073709551616:Nat):Int)),.d (.int .u64 ((x*y % 18446744073709551616:Nat):Int))]) [] []:=by
 refine qP Tryz.func132 fun c hP hfn=>?_;simp only [vcd,↓vcp,seval]
 repeat' first|(refine tq hP (h:=⟨_,fun _=>by exact sMul64 x y hx hy,?_⟩);try simp only [vcd,↓vcp,seval])|refine ⟨fun h=>?_,fun h=>?_⟩|refine aX ?_|fail
 (refine rp (VLe.tups ?_);simp only [rsb,vcd,↓vcp,seval])
 exact ⟨VLe.refl _,VLe.refl _,trivial⟩
set_option maxHeartbeats 1000000 in
theorem sRepeat1 (n:Nat) (h1:1≤n) (h2:n≤2000):Ctr Tryz.prog 86 [.d (.sl true 1 1 (litRow 1 [.int .i64 1])),.d (.int .i64 (n:Int))] [] (.d (slK .i64 (List.replicate n 1))) [] []:=by
 have e1:IntKind.u64.wrap (1:Int)=((1:Nat):Int):=by rw [IntKind.wrap_u64];omega
 have e2:IntKind.u64.wrap (n:Int)=(n:Int):=by rw [IntKind.wrap_u64];omega
 have cm:=sMulU 1 n (by omega) (by omega)
 have g1:1*n / 18446744073709551616=0:=by omega
 have g2:1*n % 18446744073709551616=n:=by omega
 rw [g1,g2] at cm
 have e3:IntKind.i64.wrap (n:Int)=(n:Int):=wI (by omega)
 refine qP Tryz.func86 fun c hP hfn=>?_;simp only [e1,e2,e3,vcd,↓vcp,seval]
 repeat' first|refine ⟨fun h=>?_,fun h=>?_⟩|refine aX ?_|fail
 ·exfalso;have:=of_decide_eq_true h;omega
 clear h
 repeat' first|(refine tq hP (h:=⟨_,fun _=>by exact cm,?_⟩);try simp only [e1,e2,e3,vcd,↓vcp,seval])|refine ⟨fun h=>?_,fun h=>?_⟩|refine aX ?_|fail
 ·exfalso;simp only [Bool.or_eq_true,decide_eq_true_eq] at h;omega
 clear h
 have e4:min 1 n=1:=by omega
 simp only [e3,e4,vcd,↓vcp,seval]
 repeat' first|refine ⟨fun h=>?_,fun h=>?_⟩|refine aX ?_|fail
 refine vcC.loop (X:=Nat) (fun m=>⟨[(7,.osl 30),(8,.d (.int .i64 (m:Int)))],[(30,.row 3 1 n (fun i=>[.int .i64 (if i<m then 1 else 0)]))],[30]⟩)
  (fun m=>1≤m∧m≤n) (fun m=>n-m) 1 ⟨by omega,by omega⟩ (Wk.of [] hfn rfl (by simp only [enb,vcd,↓vcp,seval]) (by
   simp only [e3,e4,enb,vcd,↓vcp,seval]
   refine OLe.row rfl fun i hi=>?_
   by_cases h:i<1
   ·have:i=0:=by omega
    subst this;rfl
   ·rw [if_neg h,if_neg h])) ?_
 rintro m ⟨hm1,hm2⟩
 simp only [vcd,↓vcp,seval]
 refine ⟨fun h1=>?_,fun h1=>?_⟩
 ·have hlt:m<n:=by have:=of_decide_eq_true h1;omega
  have e5:min m (n-m)=(m+min m (n-m))-m:=by omega
  have e6:IntKind.i64.wrap ((m:Int)+(min m (n-m):Nat))=((m+min m (n-m):Nat):Int):=(wI (by omega)).trans (by omega)
  repeat' first|refine ⟨fun h=>?_,fun h=>?_⟩|refine aX ?_|fail
  exact lopK.on (m+min m (n-m)) ⟨by omega,by omega⟩ (by omega) (Wk.of [] hfn rfl (by simp only [e6,enb,vcd,↓vcp,seval]) (by
   simp only [enb,vcd,↓vcp,seval]
   refine OLe.row rfl fun i hi=>?_
   by_cases h:m≤i∧i<m+min m (n-m)
   ·rw [if_pos h,if_pos (by omega),if_pos (by omega)]
   ·rw [if_neg h]
    by_cases h3:i<m
    ·rw [if_pos h3,if_pos (by omega)]
    ·rw [if_neg h3,if_neg (by omega)]))
 ·have hml:m=n:=by have:=of_decide_eq_false h1;omega
  subst hml
  repeat' first|refine ⟨fun h=>?_,fun h=>?_⟩|refine aX ?_|fail
  refine rK (Wk.pub 30 rfl) trivial ?_
  simp only [rsb,vcd,↓vcp,seval]
  refine VLe.sl (by simp) (fun _=>rfl) id fun i hi=>?_
  rw [if_pos hi]
  simp [List.getD_eq_getElem?_getD,hi]
theorem wN {x:Nat} (h:x≤9223372036854775807):IntKind.i64.wrap (x:Int)=(x:Int):=wI (by omega)
theorem wD {p q:Nat} (h:q≤p) (hp:p≤9223372036854775807):IntKind.i64.wrap ((p:Int)-(q:Int))=((p-q:Nat):Int):=(wI (by omega)).trans (by omega)
def partN (a n i:Nat):Nat:=a*(i+1) / n-a*i / n
def partsN (a n:Nat):List Int:=(List.range n).map fun i=>((partN a n i:Nat):Int)
theorem downR_nat {a s n:Nat} (hn:0<n) (hs:s≤n) (ha:a≤4000000000000000000):downR (a:Int) (s:Int) (n:Int)=(((a*s / n:Nat):Int),0):=by
 have h1:a*s / n≤a:=by
  have:a*s≤a*n:=Nat.mul_le_mul_left _ hs
  calc a*s / n≤a*n / n:=Nat.div_le_div_right this
   _=a:=Nat.mul_div_cancel _ hn
 unfold downR ofR
 rw [if_neg (by omega),if_neg (by omega)]
 simp only [Int.toNat_natCast,upD,Bool.false_eq_true,if_false,Nat.add_zero]
 rw [if_neg (by omega),if_neg (by omega)]
theorem psums_one:∀ (n:Nat) (k:Nat),psums (k:Int) (List.replicate n 1)=(List.range n).map fun i=>((k+i+1:Nat):Int)
 |0,k=>rfl
 |n+1,k=>by
  rw [List.replicate_succ,psums,show ((k:Int)+1)=((k+1:Nat):Int) by omega,psums_one n (k+1),List.range_succ_eq_map]
  simp only [List.map_cons,List.map_map]
  refine List.cons_eq_cons.2 ⟨by omega,?_⟩
  apply List.map_congr_left
  intro i _
  simp only [Function.comp_apply]
  omega
theorem deal2_one {a n:Nat} (hn:0<n) (ha:a≤4000000000000000000):∀ (j k:Nat),k+j≤n→deal2 (a:Int) (n:Int) ((a*k / n:Nat):Int) ((List.range j).map fun i=>((k+i+1:Nat):Int))=(List.range j).map fun i=>((partN a n (k+i):Nat):Int)
 |0,k,_=>rfl
 |j+1,k,h=>by
  have h1:a*k / n≤a*(k+1) / n:=Nat.div_le_div_right (Nat.mul_le_mul_left _ (by omega))
  have h2:a*(k+1) / n≤a:=by
   have:a*(k+1)≤a*n:=Nat.mul_le_mul_left _ (by omega)
   calc a*(k+1) / n≤a*n / n:=Nat.div_le_div_right this
    _=a:=Nat.mul_div_cancel _ hn
  have ih:=deal2_one hn ha j (k+1) (by omega)
  rw [List.range_succ_eq_map]
  simp only [List.map_cons,List.map_map,deal2,Nat.add_zero]
  rw [downR_nat hn (by omega) ha]
  simp only
  refine List.cons_eq_cons.2 ⟨?_,?_⟩
  ·exact wD h1 (Nat.le_trans h2 (Nat.le_trans ha (by decide)))
  ·have e1:(List.range j).map ((fun i=>((k+i+1:Nat):Int)) ∘ Nat.succ)=(List.range j).map fun i=>((k+1+i+1:Nat):Int):=by
    apply List.map_congr_left;intro i _;simp only [Function.comp_apply];omega
   have e2:(List.range j).map ((fun i=>((partN a n (k+i):Nat):Int)) ∘ Nat.succ)=(List.range j).map fun i=>((partN a n (k+1+i):Nat):Int):=by
    apply List.map_congr_left;intro i _;simp only [Function.comp_apply];rw [show k+i.succ=k+1+i by omega]
   rw [e1,e2,ih]
theorem sum_ones (n:Nat):(List.replicate n (1:Int)).sum=n:=by
 induction n with
 |zero=>rfl
 |succ n ih=>rw [List.replicate_succ,List.sum_cons,ih];omega
theorem split_one {a n:Nat} (h1:1≤n) (h2:n≤2000) (ha:a≤4000000000000000000):splitR (a:Int) (List.replicate n 1)=(partsN a n,0):=by
 have hs:=sum_ones n
 have hd:=deal2_one (a:=a) (n:=n) (by omega) ha n 0 (by omega)
 have hp:=psums_one n 0
 simp only [Nat.zero_add,Nat.mul_zero,Nat.zero_div,Int.natCast_zero] at hd hp
 unfold splitR
 rw [if_neg (by simp;omega),if_neg (by rw [List.any_eq_true];rintro ⟨x,hx,hx2⟩;rw [List.eq_of_mem_replicate hx] at hx2;simp at hx2),hs,if_neg (by omega),if_neg (by omega),hp]
 unfold partsN
 rw [←hd]
theorem sEqual (a n:Nat) (h1:1≤n) (h2:n≤2000) (ha:a≤4000000000000000000):Ctr Tryz.prog 44 [.d (.int .i64 (a:Int)),.d (.int .i64 (n:Int))] [] (.d (slK .i64 (partsN a n))) [] []:=by
 have cs:=sSplit (a:Int) (List.replicate n 1) (by omega) (by simp;omega) (by intro x hx;rw [List.eq_of_mem_replicate hx];omega)
 rw [split_one h1 h2 ha] at cs
 refine qP Tryz.func44 fun c hP hfn=>?_;simp only [vcd,↓vcp,seval]
 repeat' first|(refine tq hP (h:=⟨_,fun _=>by first|exact sRepeat1 n h1 h2|exact cs,?_⟩);try simp only [vcd,↓vcp,seval])|refine ⟨fun h=>?_,fun h=>?_⟩|refine aX ?_|fail
 exact rr
end Go.Proofs.YtmccbkekpjgdbaaGreat
end
section
namespace Go.Proofs.YtmccbkekpjgdbaaGreat
open Go.Bx
set_option maxRecDepth 10000
structure Bl where
 du:Int
 am:Int
 pa:Int
deriving DecidableEq
instance:Inhabited Bl:=⟨⟨0,0,0⟩⟩
def cB (b:Bl):List D:=[.int .i64 b.du,.int .i64 b.am,.int .i64 b.pa]
def slL (l:List Bl):D:=.sl false 3 l.length (fun i=>[.int .i64 (l.getD i default).du,.int .i64 (l.getD i default).am,.int .i64 (l.getD i default).pa])
theorem rSame (a b:List Bl) (ha:a.length≤9223372036854775807) (hb:b.length≤9223372036854775807):Ctr Tryz.prog 18 [.d (slL a),.d (slL b)] [] (.d (.bool (decide (a=b)))) [] []:=by
 refine qP Tryz.func18 fun c hP hfn=>?_;simp only [slL,vcd,↓vcp,seval]
 refine ⟨fun h0=>?_,fun h0=>?_⟩
 ·have h':¬ a=b:=by rintro rfl;simp at h0
  (refine rq ?_;first|exact ⟨⟩|simp [h'])
 have hlen:a.length=b.length:=by simp only [bne_eq_false_iff_eq] at h0;omega
 clear h0
 refine vcC.loop (X:=Nat) (fun k=>⟨[(0,.d (slL a)),(1,.d (slL b)),(5,.d (.int .i64 k))],[],[]⟩)
  (fun k=>k≤a.length∧a.take k=b.take k) (fun k=>a.length-k) 0 ⟨Nat.zero_le _,by simp⟩ (Wk.of [] hfn rfl (by (simp only [slL,enb,vcd,↓vcp,seval])<;>(first|exact wS (by omega)|(rw [List.length_append];exact wS (by omega))|assumption)) (by simp only [enb,vcd,↓vcp,seval])) ?_
 rintro k ⟨hk,he⟩
 simp only [slL,vcd,↓vcp,seval]
 refine ⟨fun h1=>?_,fun h1=>?_⟩
 ·have hlt:k<a.length:=by have:=of_decide_eq_true h1;omega
  obtain ⟨x,hdx,hgx,hmx,hax⟩:=drop_at hlt
  obtain ⟨y,hdy,hgy,hmy,hay⟩:=drop_at (show k<b.length by omega)
  simp only [hgx,hgy,vcd,↓vcp,seval]
  repeat' first|refine ⟨fun h=>?_,fun h=>?_⟩|refine aX ?_|fail
  ·have h':¬ a=b:=by
    rintro rfl
    have:x=y:=by rw [hax] at hay;exact Option.some.inj hay
    subst this
    simp at h
   (refine rq ?_;first|exact ⟨⟩|simp [h'])
  ·have hxy:x=y:=by
    obtain ⟨x1,x2,x3⟩:=x
    obtain ⟨y1,y2,y3⟩:=y
    simp at h
    simp [h]
   refine lopK.on (k+1) ⟨hlt,?_⟩ (by omega) (Wk.of [] hfn rfl (by (simp only [slL,enb,vcd,↓vcp,seval])<;>(first|exact wS (by omega)|(rw [List.length_append];exact wS (by omega))|assumption)) (by simp only [enb,vcd,↓vcp,seval]))
   rw [List.take_add_one,List.take_add_one,he,hax,hay,hxy]
 ·have hkl:k=a.length:=by have:=of_decide_eq_false h1;omega
  rw [hkl,List.take_length,hlen,List.take_length] at he
  (refine rq ?_;first|exact ⟨⟩|simp [he])
end Go.Proofs.YtmccbkekpjgdbaaGreat
end
section
namespace Go.Proofs.YtmccbkekpjgdbaaGreat
open Go.Bx
set_option maxRecDepth 10000
def rowB (l:List Bl):Own:=.row 74 3 l.length (fun i=>[.int .i64 (l.getD i default).du,.int .i64 (l.getD i default).am,.int .i64 (l.getD i default).pa])
theorem VLe_slL {full:Bool} {n:Nat} {l:List Bl} {F:Nat→List D} (hn:n=l.length) (hF:∀ i,i<n→F i=[.int .i64 (l.getD i default).du,.int .i64 (l.getD i default).am,.int .i64 (l.getD i default).pa]):VLe (.d (.sl full 3 n F)) (.d (slL l)):=VLe.sl hn (fun _=>rfl) (by simp) hF
end Go.Proofs.YtmccbkekpjgdbaaGreat
end
section
namespace Go.Proofs.YtmccbkekpjgdbaaGreat
open Go.Bx
set_option maxRecDepth 10000
theorem partsN_len (a n:Nat):(partsN a n).length=n:=by simp [partsN]
theorem partsN_at {a n i:Nat} (h:i<n) (d:Int):(partsN a n).getD i d=((partN a n i:Nat):Int):=by
 simp [partsN,List.getD_eq_getElem?_getD,h]
end Go.Proofs.YtmccbkekpjgdbaaGreat
end
section
namespace Go.Proofs.YtmccbkekpjgdbaaGreat
open Go.Bx
set_option maxRecDepth 10000
def planB (a:Nat) (f:Int) (n i:Nat):Bl:=⟨(shiftN f (i*12 / n)).1,(partN a n i:Nat),0⟩
def planL (a:Nat) (f:Int) (n:Nat):List Bl:=(List.range n).map (planB a f n)
def fitsP (f:Int) (n:Nat):Bool:=(List.range n).all fun i=>(shiftN f (i*12 / n)).2 == 0
def mayP (amt f t n:Int):Bool:=decide (n∈[1,2,4,12])&&decide (0≤amt∧amt≤4000000000000000000)&&!(manyR f t == 0)
def planR (amt f t n:Int):List Bl×Int:=
 if mayP amt f t n=false then ([],1) else if fitsP f n.toNat=false then ([],3) else (planL amt.toNat f n.toNat,0)
theorem mayP_iff {amt f t n:Int}:mayP amt f t n=true↔(n=1∨n=2∨n=4∨n=12)∧0≤amt∧amt≤4000000000000000000∧¬ manyR f t=0:=by
 simp only [mayP,Bool.and_eq_true,decide_eq_true_eq,List.mem_cons,List.not_mem_nil,or_false,Bool.not_eq_true',beq_eq_false_iff_ne,ne_eq]
 constructor
 ·rintro ⟨⟨h1,h2⟩,h3⟩;exact ⟨h1,h2.1,h2.2,h3⟩
 ·rintro ⟨h1,h2,h3,h4⟩;exact ⟨⟨h1,h2,h3⟩,h4⟩
theorem plan_snoc (a:Nat) (f:Int) (n k:Nat):(List.range (k+1)).map (planB a f n)=(List.range k).map (planB a f n)++[planB a f n k]:=by
 rw [List.range_succ,List.map_append];rfl
theorem fits_not {f:Int} {n i:Nat} (hi:i<n) (h:¬ (shiftN f (i*12 / n)).2=0):fitsP f n=false:=by
 rw [fitsP,List.all_eq_false]
 exact ⟨i,List.mem_range.2 hi,by simpa using h⟩
theorem fits_all {f:Int} {n:Nat} (h:∀ i,i<n→(shiftN f (i*12 / n)).2=0):fitsP f n=true:=by
 rw [fitsP,List.all_eq_true]
 intro i hi
 simpa using h i (List.mem_range.1 hi)
set_option maxHeartbeats 2000000 in
theorem sPlan (amt f t n:Int):Ctr Tryz.prog 17 [.d (.int .i64 amt),vS f t,.d (.int .i64 n)] [] (.tup [.d (slL (planR amt f t n).1),.d (.int .i64 (planR amt f t n).2)]) [] []:=by
 have cm:=sMany f t
 have cc:=sContains' (full:=true) (n:=4) (ds:=[.int .i64 1,.int .i64 2,.int .i64 4,.int .i64 12]) (l:=[1,2,4,12]) (x:=n) (by repeat constructor) rfl (by simp)
 have hmi:=@mayP_iff amt f t n
 simp only [vS] at cm
 refine qP Tryz.func17 fun c hP hfn=>?_;simp only [vS,vcd,↓vcp,seval]
 repeat' first|(refine tq hP (h:=⟨_,fun _=>by first|exact cc|exact cm,?_⟩);try simp only [vcd,↓vcp,seval])|refine ⟨fun h=>?_,fun h=>?_⟩|refine aX ?_|fail
 ·have hm:mayP amt f t n=false:=by
   rw [←Bool.not_eq_true]
   intro g
   have g2:=hmi.1 g
   simp only [Bool.or_eq_true,Bool.not_eq_true',decide_eq_false_iff_not,decide_eq_true_eq,beq_iff_eq,List.mem_cons,List.not_mem_nil,or_false] at h
   omega
  (refine rp (VLe.tups ?_);simp only [rsb,vcd,↓vcp,seval])
  rw [planR,if_pos hm];exact ⟨VLe.nil rfl (by simp),VLe.refl _,trivial⟩
 have hm:mayP amt f t n=true:=by
  rw [hmi]
  simp only [Bool.or_eq_false_iff,Bool.not_eq_false',decide_eq_false_iff_not,decide_eq_true_eq,beq_eq_false_iff_ne,ne_eq,List.mem_cons,List.not_mem_nil,or_false] at h
  omega
 have hq:planR amt f t n=if fitsP f n.toNat=false then ([],3) else (planL amt.toNat f n.toNat,0):=by rw [planR,if_neg (by rw [hm];simp)]
 have h2:=hmi.1 hm
 clear h hmi
 obtain ⟨N,rfl⟩:∃ N:Nat,n=(N:Int):=⟨n.toNat,by omega⟩
 obtain ⟨A,rfl⟩:∃ A:Nat,amt=(A:Int):=⟨amt.toNat,by omega⟩
 simp only [Int.toNat_natCast] at hq
 have hN:1≤N∧N≤12:=by omega
 have ce:=sEqual A N hN.1 (by omega) (by omega)
 repeat' first|(refine tq hP (h:=⟨_,fun _=>by exact ce,?_⟩);try simp only [vcd,↓vcp,seval])|refine ⟨fun h=>?_,fun h=>?_⟩|refine aX ?_|fail
 refine vcC.loop (X:=Nat) (fun k=>⟨[(10,.osl 1000),(2,.d (.int .i64 (N:Int))),(4,.own 4 0),(9,.d (slK .i64 (partsN A N))),(35,.d (.int .i64 (N:Int))),(36,.d (.int .i64 k))],[(1000,rowB ((List.range k).map (planB A f N))),(4,.fix [.d (.int .i64 f),.d (.int .i64 t)])],[1000,4]⟩)
  (fun k=>k≤N∧∀ i,i<k→(shiftN f (i*12 / N)).2=0) (fun k=>N-k) 0 ⟨Nat.zero_le _,fun i hi=>absurd hi (Nat.not_lt_zero i)⟩
  ((Wk.row0 (s:=10) (k:=1000) (e:=74) (sz:=3) (f':=fun _=>[]) rfl rfl (by simp)).trans (Wk.of _ hfn rfl (by simp only [enb,vcd,↓vcp,seval]) (by simp only [rowB,List.range_zero,List.map_nil,enb,vcd,↓vcp,seval];exact OLe.row rfl (fun i hi=>absurd hi (Nat.not_lt_zero i))))) ?_
 rintro k ⟨hk,hok⟩
 have hpl:((List.range k).map (planB A f N)).length=k:=by simp
 simp only [rowB,vcd,↓vcp,seval]
 refine ⟨fun h1=>?_,fun h1=>?_⟩
 ·have hlt:k<N:=by have:=of_decide_eq_true h1;omega
  have e1:IntKind.i64.wrap ((k:Int)*12)=((k*12:Nat):Int):=(wI (by omega)).trans (by omega)
  have e2:(((k*12:Nat):Int)).tdiv (N:Int)=((k*12 / N:Nat):Int):=tdiv_nat _ _
  have hb:k*12 / N≤k*12:=Nat.div_le_self _ _
  have e3:IntKind.i64.wrap ((k*12 / N:Nat):Int)=((k*12 / N:Nat):Int):=wN (by omega)
  have cs:=sShift f (k*12 / N) (by omega)
  have hpa:=fun d=>partsN_at (a:=A) hlt d
  have hpn:=partsN_len A N
  simp only [e1,e2,e3,hpa,hpn,vcd,↓vcp,seval]
  repeat' first|(refine tq hP (h:=⟨_,fun _=>by exact cs,?_⟩);try simp only [e1,e2,e3,hpa,hpn,vcd,↓vcp,seval])|refine ⟨fun h=>?_,fun h=>?_⟩|refine aX ?_|fail
  ·have h':¬ (shiftN f (k*12 / N)).2=0:=by simpa using h
   rw [if_pos (fits_not hlt h')] at hq
   (refine rp (VLe.tups ?_);simp only [rsb,vcd,↓vcp,seval])
   rw [hq];exact ⟨VLe.nil rfl (by simp),VLe.refl _,trivial⟩
  ·have h':(shiftN f (k*12 / N)).2=0:=by simpa using h
   refine lopK.on (k+1) ⟨hlt,fun i hi=>?_⟩ (by omega) ?_
   ·by_cases e:i=k
    ·rw [e];exact h'
    ·exact hok i (by omega)
   simp only [rowB,plan_snoc]
   exact (Wk.snoc (k:=59) _ hfn rfl rfl rfl rfl (OLe.app1 (cells:=fun n:Bl=>[.int .i64 n.du,.int .i64 n.am,.int .i64 n.pa]) (fun i hi=>by simp only [if_pos hi]) (by simp [planB])) (by (simp only [enb,vcd,↓vcp,seval])<;>(first|exact wS (by omega)|(rw [List.length_append];exact wS (by omega))|assumption)) (by simp only [enb,vcd,↓vcp,seval]) (by simp) (by simp only [enb,vcd,↓vcp,seval]) (by simp only [enb,vcd,↓vcp,seval]))
 ·have hkl:k=N:=by have:=of_decide_eq_false h1;omega
  subst hkl
  rw [if_neg (by rw [fits_all hok];simp)] at hq
  repeat' first|refine ⟨fun h=>?_,fun h=>?_⟩|refine aX ?_|fail
  refine rK (Wk.pub 1000 rfl) trivial ?_
  simp only [rsb,vcd,↓vcp,seval]
  rw [hq];exact VLe.tups ⟨VLe.refl _,VLe.refl _,trivial⟩
end Go.Proofs.YtmccbkekpjgdbaaGreat
end
section
namespace Go.Proofs.YtmccbkekpjgdbaaGreat
open Go.Bx
set_option maxRecDepth 10000
theorem sMust0:Ctr Tryz.prog 77 [.d (.int .i64 0)] [] (.tup []) [] []:=by
 refine qP Tryz.func77 fun c hP hfn=>?_;simp only [vcd,↓vcp,seval]
 repeat' first|refine ⟨fun h=>?_,fun h=>?_⟩|refine aX ?_|fail
 all_goals exact rr
theorem sMust1 (e:Int) (h:e≠0):CtrP Tryz.prog 77 [.d (.int .i64 e)] (vErr e):=by
 have h1:(e != 0)=true:=by rw [bne_iff_ne];exact h
 refine qN Tryz.func77 fun c hP hfn hpk=>?_;simp only [h1,vcd,↓vcp,seval]
 repeat' first|refine ⟨fun h=>?_,fun h=>?_⟩|refine aX ?_|fail
 refine TR.pnc rfl trivial ?_
 rw [hpk];exact VLe.refl _
theorem sIn (f t d:Int):Ctr Tryz.prog 66 [vS f t,.d (.int .i64 d)] [] (.d (.bool (decide (d≥(keptR f t).1)&&decide (d<(keptR f t).2)))) [] []:=by
 have ck:=sKept f t
 simp only [vS] at ck
 refine qP Tryz.func66 fun c hP hfn=>?_;simp only [vS,vcd,↓vcp,seval]
 repeat' first|(refine tq hP (h:=⟨_,fun _=>by exact ck,?_⟩);try simp only [vcd,↓vcp,seval])|refine ⟨fun h=>?_,fun h=>?_⟩|refine aX ?_|fail
 exact rr
theorem sDay (n:Int):Ctr Tryz.prog 109 [.d (.int .i64 n)] [] (.d (.bool (decide (n≥1)&&decide (n≤292194)))) [] []:=by
 refine qP Tryz.func109 fun c hP hfn=>?_;simp only [vcd,↓vcp,seval]
 exact rr
def covR:Int→List Cv→Bool
 |_,[]=>true
 |last,c::r=>!(decide (c.pe≤last) || !(rightC c))&&covR c.pe r
def coversT (l:List Cv):Bool:=covR (-1) l&&(decide (1≤l.length)&&decide (l.length≤8))
theorem sCovers (l:List Cv) (hl:l.length≤9223372036854775807):Ctr Tryz.prog 116 [.d (slC l)] [] (.d (.bool (coversT l))) [] []:=by
 refine qP Tryz.func116 fun c hP hfn=>?_;simp only [slC,vcd,↓vcp,seval]
 refine vcC.loop (X:=Nat×Int) (fun x=>⟨[(0,.d (slC l)),(3,.d (.int .i64 x.2)),(6,.d (slC l)),(7,.d (.int .i64 l.length)),(8,.d (.int .i64 x.1))],[],[]⟩)
  (fun x=>x.1≤l.length∧covR (-1) l=covR x.2 (l.drop x.1)) (fun x=>l.length-x.1) (0,-1) ⟨Nat.zero_le _,rfl⟩ (Wk.of _ hfn rfl (by simp only [slC,enb,vcd,↓vcp,seval]) (by simp only [enb,vcd,↓vcp,seval])) ?_
 rintro ⟨k,last⟩ ⟨hk,he⟩
 simp only at hk he
 by_cases hlt:k<l.length
 ·obtain ⟨c',hd,hg,-,-⟩:=drop_at hlt
  have d0:decide ((k:Int)<(l.length:Int))=true:=decide_eq_true (by omega)
  have ewk:IntKind.i64.wrap ((k:Int)+1)=((k+1:Nat):Int):=wS (by omega)
  have cc:=sCover c'
  simp only [vC,cC] at cc
  rw [hd,covR] at he
  simp only [slC,hg,d0,ewk,vcd,↓vcp,seval]
  repeat' first|(refine tq hP (h:=⟨_,fun _=>by exact cc,?_⟩);try simp only [hg,ewk,vcd,↓vcp,seval])|refine ⟨fun h=>?_,fun h=>?_⟩|refine aX ?_|fail
  ·have e:coversT l=false:=by rw [coversT,he,h];rfl
   (refine rq ?_;first|exact ⟨⟩|rw [e])
  ·rw [h] at he
   exact lopK.on (k+1,c'.pe) ⟨hlt,by simpa using he⟩ (by simp only;omega) (Wk.of _ hfn rfl (by simp only [slC,enb,vcd,↓vcp,seval]) (by simp only [enb,vcd,↓vcp,seval]))
 ·have hkl:k=l.length:=by omega
  have d0:decide ((k:Int)<(l.length:Int))=false:=decide_eq_false (by omega)
  rw [hkl,List.drop_length,covR] at he
  have e:coversT l=(decide ((l.length:Int)≥1)&&decide ((l.length:Int)≤8)):=by
   rw [coversT,he,Bool.true_and]
   congr 1
   ·exact decide_eq_decide.2 (by omega)
   ·exact decide_eq_decide.2 (by omega)
  simp only [slC,d0,vcd,↓vcp,seval]
  repeat' first|refine ⟨fun h=>?_,fun h=>?_⟩|refine aX ?_|fail
  (refine rq ?_;first|exact ⟨⟩|rw [e])
structure Tm where
 sf:Int
 st:Int
 rk:Rk
 cv:List Cv
instance:Inhabited Tm:=⟨⟨0,0,default,[]⟩⟩
structure Ch where
 bk:Int
 dy:Int
 kd:Int
 rk:Rk
 cv:List Cv
 wy:Int
instance:Inhabited Ch:=⟨⟨0,0,0,default,[],0⟩⟩
structure Hi where
 id:Int
 bk:Int
 tm:Tm
 ch:List Ch
def cTm (t:Tm):List V:=[.d (.int .i64 t.sf),.d (.int .i64 t.st),.d (.int .i64 t.rk.kd),.d (.int .i64 t.rk.va),.d (.int .i64 t.rk.ag),.d (.int .i64 t.rk.zo),.d (slC t.cv)]
def vTm (t:Tm):V:=.ag (cTm t)
def cCh (c:Ch):List V:=[.d (.int .i64 c.bk),.d (.int .i64 c.dy),.d (.int .i64 c.kd),.d (.int .i64 c.rk.kd),.d (.int .i64 c.rk.va),.d (.int .i64 c.rk.ag),.d (.int .i64 c.rk.zo),.d (slC c.cv),.d (.int .i64 c.wy)]
def vCh (c:Ch):V:=.ag (cCh c)
def dCh (c:Ch):List D:=[.int .i64 c.bk,.int .i64 c.dy,.int .i64 c.kd,.int .i64 c.rk.kd,.int .i64 c.rk.va,.int .i64 c.rk.ag,.int .i64 c.rk.zo,slC c.cv,.int .i64 c.wy]
def slH (l:List Ch):D:=.sl false 9 l.length (fun i=>dCh (l.getD i default))
def cHi (h:Hi):List V:=[.d (.int .i64 h.id),.d (.int .i64 h.bk),.d (.int .i64 h.tm.sf),.d (.int .i64 h.tm.st),.d (.int .i64 h.tm.rk.kd),.d (.int .i64 h.tm.rk.va),.d (.int .i64 h.tm.rk.ag),.d (.int .i64 h.tm.rk.zo),.d (slC h.tm.cv),.d (slH h.ch)]
def vHi (h:Hi):V:=.ag (cHi h)
def dayB (n:Int):Bool:=decide (n≥1)&&decide (n≤292194)
def noRk (r:Rk):Bool:=(r.kd == 0)&&((r.va == 0)&&((r.ag == 0)&&(r.zo == 0)))
def ck1 (c:Ch):Bool:=rightR c.rk&&((c.cv.length:Int) == 0)&&(c.wy == 0)
def ck2 (c:Ch):Bool:=coversT c.cv&&noRk c.rk&&(c.wy == 0)
def ck3 (c:Ch):Bool:=((c.wy == 0) || (c.wy == 1))&&((c.cv.length:Int) == 0)&&noRk c.rk
def ck4 (c:Ch):Bool:=(c.wy == 0)&&((c.cv.length:Int) == 0)&&noRk c.rk
theorem sCk1 (c:Ch):Ctr Tryz.prog 152 [vCh c] [] (.d (.bool (ck1 c))) [] []:=by
 have cr:=sRisk c.rk
 simp only [vR,cR] at cr
 refine qP Tryz.func152 fun c hP hfn=>?_;simp only [vCh,cCh,slC,vcd,↓vcp,seval]
 repeat' first|(refine tq hP (h:=⟨_,fun _=>by exact cr,?_⟩);try simp only [vcd,↓vcp,seval])|refine ⟨fun h=>?_,fun h=>?_⟩|refine aX ?_|fail
 exact rr
theorem sCk2 (c:Ch) (hl:c.cv.length≤9223372036854775807):Ctr Tryz.prog 153 [vCh c] [] (.d (.bool (ck2 c))) [] []:=by
 have cr:=sCovers c.cv hl
 simp only [slC] at cr
 refine qP Tryz.func153 fun c hP hfn=>?_;simp only [vCh,cCh,slC,vcd,↓vcp,seval]
 repeat' first|(refine tq hP (h:=⟨_,fun _=>by exact cr,?_⟩);try simp only [vcd,↓vcp,seval])|refine ⟨fun h=>?_,fun h=>?_⟩|refine aX ?_|fail
 exact rr
theorem sCk3 (c:Ch):Ctr Tryz.prog 154 [vCh c] [] (.d (.bool (ck3 c))) [] []:=by
 refine qP Tryz.func154 fun c hP hfn=>?_;simp only [vCh,cCh,slC,vcd,↓vcp,seval]
 repeat' first|refine ⟨fun h=>?_,fun h=>?_⟩|refine aX ?_|fail
 exact rr
theorem sCk4 (c:Ch):Ctr Tryz.prog 155 [vCh c] [] (.d (.bool (ck4 c))) [] []:=by
 refine qP Tryz.func155 fun c hP hfn=>?_;simp only [vCh,cCh,slC,vcd,↓vcp,seval]
 repeat' first|refine ⟨fun h=>?_,fun h=>?_⟩|refine aX ?_|fail
 exact rr
end Go.Proofs.YtmccbkekpjgdbaaGreat
end
section
namespace Go.Proofs.YtmccbkekpjgdbaaGreat
open Go.Bx
set_option maxRecDepth 10000
theorem layK_nrm {c:Ctx} {r:Dfr} {g:FuncId} {ks:List Nat} {rs:List RV} {res:V} {st:St}:layK c r g ks rs res .nrm st=vcR c false r.is st [] (fun _ st1=>layR c r g ks rs res st1):=propext ⟨fun h=>h,fun h=>h⟩
def insA (n:Int) (b:Bool) (m:Nat) (cs:List V):List (Nat×Own):=[(3,.fix [.d (.int .i64 n)]),(1,.fix [.osl 7]),(2,.fix [.d (.bool b)]),(7,.lit 25 1 m cs)]
theorem dAll (n:Int) (b:Bool) (m:Nat) (cs:List V):CtrD Tryz.prog 156 [3,1,2] none (insA n b m cs) (insA n (n == m) m cs):=by
 refine ⟨ok156,by simp [keysO,insA],by simp [keysO,insA],fun E0 β w vals pv hE hsz hv hins _=>?_⟩
 obtain ⟨v0,v1,v2,rfl⟩:∃ v0 v1 v2,vals=#[v0,v1,v2]:=by
  match vals,hsz with
  |⟨[a,b,c]⟩,_=>exact ⟨a,b,c,rfl⟩
 have ptr:∀ (v:Value) (k:Nat) (E:Nat→Prop),RelV β E w v (.own k 0)→∃ b,v=.pointer (some ⟨b,0,none⟩)∧β k=some (.pointer (some ⟨b,0,none⟩)):=fun v k E h=>by
  cases h with
  |own k off b h=>exact ⟨b,rfl,h⟩
 obtain ⟨b0,rfl,hb0⟩:=ptr _ _ _ (hv 0 v0 3 rfl rfl)
 obtain ⟨b1,rfl,hb1⟩:=ptr _ _ _ (hv 1 v1 1 rfl rfl)
 obtain ⟨b2,rfl,hb2⟩:=ptr _ _ _ (hv 2 v2 2 rfl rfl)
 obtain ⟨u0,e0,g1,g2,g3,g4⟩:=fix_at (k:=3) (x:=.d (.int .i64 n)) hins (by simp [insA]) hb0
 obtain ⟨u1,e1,q1,q2,q3,q4⟩:=fix_at (k:=1) (x:=.osl 7) hins (by simp [insA]) hb1
 obtain ⟨u2,e2,r1,r2,r3,r4⟩:=fix_at (k:=2) (x:=.d (.bool b)) hins (by simp [insA]) hb2
 obtain rfl:u0=.int .i64 n:=by cases g4 with|d _ _ h=>cases h;rfl
 obtain ⟨A,cp,rfl⟩:∃ A cp,u1=.slice A m cp:=by
  obtain ⟨v,xs,h1,⟨-,h2⟩,-⟩:=hins.ok 7 (.lit 25 1 m cs) (by simp [insA])
  cases q4 with
  |osl k v' h _ =>
   rw [h1] at h;cases h
   rcases h2 with ⟨⟨a,rfl⟩,rfl⟩|⟨g,cap,cur,rfl,-⟩
   ·exact ⟨a,0,rfl⟩
   ·exact ⟨_,cap,rfl⟩
 refine (callsDIn_of_wpSIn (R:=fun e u' w'=>e=.returned (.tuple #[])∧u'=.returning∧w'=w.setCell ⟨b2,0,none⟩ (.bool (n == m))) Tryz.func156 rfl trivial fun c₀ cs hu=>?_).mono ?_
 ·simp only [modeP] at hu
  apply wpSIn_region
  simp [wpOpsSIn,go_sem,hu,Tryz.ntmps156,g2,g3,q2,q3,r2,r3,bodyPostS,results,Tryz.results156]
  cases c₀
  simp_all
 ·rintro e' u' w' ⟨rfl,rfl,rfl⟩
  refine ⟨_,rfl,rfl,?_,set_keeps ⟨2,by simp [keysO,insA],by simp [Names.blk,hb2,blkOf]⟩⟩
  have:=own_set (k:=2) (x:=.d (.bool b)) hins (by simp [insA]) hb2 (v:=.bool (n == m)) (y:=.d (.bool (n == m))) (.d _ _ (.bool _))
  simpa [setO,insA] using this
def fnM (g:Nat) (cs:List D):V:=.fn (.func g) [] [.mem cs]
theorem retAll {c2:Ctx} (hP:c2.P=Tryz.prog) {n:Int} {fns:List V} {b:Bool} (hb:b=(n == 4)) {st:St} (h:Wk c2 st ⟨[(2,.own 2 0)],insA n false 4 fns,[3,2,1,7]⟩):RetD c2 156 [3,1,2] rs110 (.d (.bool b)) .ret st:=by
 refine ⟨_,insA n false 4 fns,insA n (n == ((4:Nat):Int)) 4 fns,h,by rw [hP];exact dAll n false 4 fns,fun k o hm=>mem_own? (by simp [keysO,insA]) hm,?_,?_⟩
 ·first|(simp only [rs110,insA,rsb,vcd,↓vcp,seval];done)|trivial
 ·simp only [rs110,insA,rsb,enb,vcd,↓vcp,seval]
  rw [hb];first|done|exact VLe.refl _
theorem sAll (cs:List D) (b0 b1 b2 b3:Bool) (h0:Ctr Tryz.prog 111 [.mem cs] [] (.d (.bool b0)) [] []) (h1:Ctr Tryz.prog 112 [.mem cs] [] (.d (.bool b1)) [] []) (h2:Ctr Tryz.prog 113 [.mem cs] [] (.d (.bool b2)) [] [])
  (h3:Ctr Tryz.prog 115 [.mem cs] [] (.d (.bool b3)) [] []):Ctr Tryz.prog 110 [.osl 7] [(7,.lit 25 1 4 [fnM 111 cs,fnM 112 cs,fnM 113 cs,fnM 115 cs])] (.d (.bool (b0&&b1&&b2&&b3))) [] []:=by
 refine ctr_deferO 156 [3,1,2] Tryz.func110 ok110 rfl cd110 cr110 Tryz.ntmps110 (by simp) rfl ?_
 intro c hP hfn
 simp only [kd110,fnM,namesL,V.names,ownNames,vcd,↓vcp,seval]
 rw [layK_nrm]
 simp only [vcd,↓vcp,seval]
 refine ⟨⟨_,_,rfl,trivial,trivial,rfl⟩,by simp [keysO],fun c2 hP2 hfn2 hrd2 hpk2=>?_⟩
 refine vcS.of ?_
 simp only [vcd,↓vcp,seval]
 refine vcC.loop (X:=Nat) (fun k=>⟨[(2,.own 2 0),(3,.own 3 0),(7,.osl 7),(8,.d (.int .i64 4)),(9,.d (.int .i64 k))],insA k false 4 [fnM 111 cs,fnM 112 cs,fnM 113 cs,fnM 115 cs],[3,2,1,7]⟩)
  (fun k=>k≤4∧∀ j,j<k→[b0,b1,b2,b3].getD j false=true) (fun k=>4-k) 0 ⟨Nat.zero_le _,fun j hj=>absurd hj (Nat.not_lt_zero j)⟩ (Wk.of _ hfn2 rfl (by simp only [enb,vcd,↓vcp,seval]) (by simp only [insA,fnM,enb,vcd,↓vcp,seval])) ?_
 rintro k ⟨hk,he⟩
 have hk4:k=0∨k=1∨k=2∨k=3∨k=4:=by omega
 have hP:=hP2.trans hP
 have w1:IntKind.i64.wrap 1=1:=wI (by omega)
 have w2:IntKind.i64.wrap 2=2:=wI (by omega)
 have w3:IntKind.i64.wrap 3=3:=wI (by omega)
 have w4:IntKind.i64.wrap 4=4:=wI (by omega)
 have n1:((1:Nat):Int)=1:=rfl
 have n2:((2:Nat):Int)=2:=rfl
 have n3:((3:Nat):Int)=3:=rfl
 have n4:((4:Nat):Int)=4:=rfl
 have n0:((0:Nat):Int)=0:=rfl
 have s1:(0:Int)+1=1:=rfl
 have s2:(1:Int)+1=2:=rfl
 have s3:(2:Int)+1=3:=rfl
 have s4:(3:Int)+1=4:=rfl
 rcases hk4 with rfl|rfl|rfl|rfl|rfl
 ·simp only [insA,fnM,n0,n1,n2,n3,n4,vcd,↓vcp,seval]
  repeat' first|(refine tq hP (h:=⟨_,fun _=>by exact h0,?_⟩);try simp only [n0,n1,n2,n3,n4,s1,s2,s3,s4,w1,w2,w3,w4,vcd,↓vcp,seval])|refine ⟨fun h=>?_,fun h=>?_⟩|refine aX ?_|fail
  ·
   have hb:b0=false:=by simpa using h
   exact retAll (n:=0) (fns:=[fnM 111 cs,fnM 112 cs,fnM 113 cs,fnM 115 cs]) hP (by rw [ hb];simp) (Wk.of _ hfn2 rfl (by simp only [enb,vcd,↓vcp,seval]) (by simp only [insA,fnM,enb,vcd,↓vcp,seval]))
  ·have hb:b0=true:=by simpa using h
   exact lopK.on 1 ⟨by decide,fun j hj=>by
    rcases Nat.lt_or_eq_of_le (Nat.le_of_lt_succ hj) with h8|h8
    ·exact he j h8
    ·subst h8;exact hb⟩ (by decide) (Wk.of _ hfn2 rfl (by simp only [n0,n1,n2,n3,n4,s1,s2,s3,s4,w1,w2,w3,w4,enb,vcd,↓vcp,seval]) (by simp only [insA,fnM,n0,n1,n2,n3,n4,s1,s2,s3,s4,w1,w2,w3,w4,enb,vcd,↓vcp,seval]))
 ·simp only [insA,fnM,n0,n1,n2,n3,n4,vcd,↓vcp,seval]
  repeat' first|(refine tq hP (h:=⟨_,fun _=>by exact h1,?_⟩);try simp only [n0,n1,n2,n3,n4,s1,s2,s3,s4,w1,w2,w3,w4,vcd,↓vcp,seval])|refine ⟨fun h=>?_,fun h=>?_⟩|refine aX ?_|fail
  ·have e0:b0=true:=he 0 (by decide)
   have hb:b1=false:=by simpa using h
   exact retAll (n:=1) (fns:=[fnM 111 cs,fnM 112 cs,fnM 113 cs,fnM 115 cs]) hP (by rw [e0,hb];simp) (Wk.of _ hfn2 rfl (by simp only [enb,vcd,↓vcp,seval]) (by simp only [insA,fnM,enb,vcd,↓vcp,seval]))
  ·have hb:b1=true:=by simpa using h
   exact lopK.on 2 ⟨by decide,fun j hj=>by
    rcases Nat.lt_or_eq_of_le (Nat.le_of_lt_succ hj) with h8|h8
    ·exact he j h8
    ·subst h8;exact hb⟩ (by decide) (Wk.of _ hfn2 rfl (by simp only [n0,n1,n2,n3,n4,s1,s2,s3,s4,w1,w2,w3,w4,enb,vcd,↓vcp,seval]) (by simp only [insA,fnM,n0,n1,n2,n3,n4,s1,s2,s3,s4,w1,w2,w3,w4,enb,vcd,↓vcp,seval]))
 ·simp only [insA,fnM,n0,n1,n2,n3,n4,vcd,↓vcp,seval]
  repeat' first|(refine tq hP (h:=⟨_,fun _=>by exact h2,?_⟩);try simp only [n0,n1,n2,n3,n4,s1,s2,s3,s4,w1,w2,w3,w4,vcd,↓vcp,seval])|refine ⟨fun h=>?_,fun h=>?_⟩|refine aX ?_|fail
  ·have e0:b0=true:=he 0 (by decide)
   have e1:b1=true:=he 1 (by decide)
   have hb:b2=false:=by simpa using h
   exact retAll (n:=2) (fns:=[fnM 111 cs,fnM 112 cs,fnM 113 cs,fnM 115 cs]) hP (by rw [e0,e1,hb];simp) (Wk.of _ hfn2 rfl (by simp only [enb,vcd,↓vcp,seval]) (by simp only [insA,fnM,enb,vcd,↓vcp,seval]))
  ·have hb:b2=true:=by simpa using h
   exact lopK.on 3 ⟨by decide,fun j hj=>by
    rcases Nat.lt_or_eq_of_le (Nat.le_of_lt_succ hj) with h8|h8
    ·exact he j h8
    ·subst h8;exact hb⟩ (by decide) (Wk.of _ hfn2 rfl (by simp only [n0,n1,n2,n3,n4,s1,s2,s3,s4,w1,w2,w3,w4,enb,vcd,↓vcp,seval]) (by simp only [insA,fnM,n0,n1,n2,n3,n4,s1,s2,s3,s4,w1,w2,w3,w4,enb,vcd,↓vcp,seval]))
 ·simp only [insA,fnM,n0,n1,n2,n3,n4,vcd,↓vcp,seval]
  repeat' first|(refine tq hP (h:=⟨_,fun _=>by exact h3,?_⟩);try simp only [n0,n1,n2,n3,n4,s1,s2,s3,s4,w1,w2,w3,w4,vcd,↓vcp,seval])|refine ⟨fun h=>?_,fun h=>?_⟩|refine aX ?_|fail
  ·have e0:b0=true:=he 0 (by decide)
   have e1:b1=true:=he 1 (by decide)
   have e2:b2=true:=he 2 (by decide)
   have hb:b3=false:=by simpa using h
   exact retAll (n:=3) (fns:=[fnM 111 cs,fnM 112 cs,fnM 113 cs,fnM 115 cs]) hP (by rw [e0,e1,e2,hb];simp) (Wk.of _ hfn2 rfl (by simp only [enb,vcd,↓vcp,seval]) (by simp only [insA,fnM,enb,vcd,↓vcp,seval]))
  ·have hb:b3=true:=by simpa using h
   exact lopK.on 4 ⟨by decide,fun j hj=>by
    rcases Nat.lt_or_eq_of_le (Nat.le_of_lt_succ hj) with h8|h8
    ·exact he j h8
    ·subst h8;exact hb⟩ (by decide) (Wk.of _ hfn2 rfl (by simp only [n0,n1,n2,n3,n4,s1,s2,s3,s4,w1,w2,w3,w4,enb,vcd,↓vcp,seval]) (by simp only [insA,fnM,n0,n1,n2,n3,n4,s1,s2,s3,s4,w1,w2,w3,w4,enb,vcd,↓vcp,seval]))
 ·simp only [insA,fnM,n0,n1,n2,n3,n4,vcd,↓vcp,seval]
  repeat' first|refine ⟨fun h=>?_,fun h=>?_⟩|refine aX ?_|fail
  have e0:b0=true:=he 0 (by decide)
  have e1:b1=true:=he 1 (by decide)
  have e2:b2=true:=he 2 (by decide)
  have e3:b3=true:=he 3 (by decide)
  exact retAll (n:=4) (fns:=[fnM 111 cs,fnM 112 cs,fnM 113 cs,fnM 115 cs]) hP (by rw [e0,e1,e2,e3];simp) (Wk.of _ hfn2 rfl (by simp only [enb,vcd,↓vcp,seval]) (by simp only [insA,fnM,n4,enb,vcd,↓vcp,seval]))
end Go.Proofs.YtmccbkekpjgdbaaGreat
end
section
namespace Go.Proofs.YtmccbkekpjgdbaaGreat
open Go.Bx
set_option maxRecDepth 10000
def dTm (t:Tm):List D:=[.int .i64 t.sf,.int .i64 t.st,.int .i64 t.rk.kd,.int .i64 t.rk.va,.int .i64 t.rk.ag,.int .i64 t.rk.zo,slC t.cv]
theorem sTm1 (t:Tm):Ctr Tryz.prog 111 [.mem (dTm t)] [] (.d (.bool (okS t.sf t.st))) [] []:=by
 have ck:=sSpanRight t.sf t.st
 simp only [vS] at ck
 refine qP Tryz.func111 fun c hP hfn=>?_;simp only [dTm,slC,vcd,↓vcp,seval]
 repeat' first|(refine tq hP (h:=⟨_,fun _=>by exact ck,?_⟩);try simp only [vcd,↓vcp,seval])|refine ⟨fun h=>?_,fun h=>?_⟩|refine aX ?_|fail
 exact rr
theorem sTm2 (t:Tm):Ctr Tryz.prog 112 [.mem (dTm t)] [] (.d (.bool (decide (manyR t.sf t.st≥1)&&decide (manyR t.sf t.st≤1100)))) [] []:=by
 have ck:=sMany t.sf t.st
 simp only [vS] at ck
 refine qP Tryz.func112 fun c hP hfn=>?_;simp only [dTm,slC,vcd,↓vcp,seval]
 repeat' first|(refine tq hP (h:=⟨_,fun _=>by exact ck,?_⟩);try simp only [vcd,↓vcp,seval])|refine ⟨fun h=>?_,fun h=>?_⟩|refine aX ?_|fail
 exact rr
theorem sTm3 (t:Tm):Ctr Tryz.prog 113 [.mem (dTm t)] [] (.d (.bool (rightR t.rk))) [] []:=by
 have ck:=sRisk t.rk
 simp only [vR,cR] at ck
 refine qP Tryz.func113 fun c hP hfn=>?_;simp only [dTm,slC,vcd,↓vcp,seval]
 repeat' first|(refine tq hP (h:=⟨_,fun _=>by exact ck,?_⟩);try simp only [vcd,↓vcp,seval])|refine ⟨fun h=>?_,fun h=>?_⟩|refine aX ?_|fail
 exact rr
theorem sTm4 (t:Tm) (hl:t.cv.length≤9223372036854775807):Ctr Tryz.prog 115 [.mem (dTm t)] [] (.d (.bool (coversT t.cv))) [] []:=by
 have ck:=sCovers t.cv hl
 simp only [slC] at ck
 refine qP Tryz.func115 fun c hP hfn=>?_;simp only [dTm,slC,vcd,↓vcp,seval]
 repeat' first|(refine tq hP (h:=⟨_,fun _=>by exact ck,?_⟩);try simp only [vcd,↓vcp,seval])|refine ⟨fun h=>?_,fun h=>?_⟩|refine aX ?_|fail
 exact rr
def rightTm (t:Tm):Bool:=okS t.sf t.st&&(decide (manyR t.sf t.st≥1)&&decide (manyR t.sf t.st≤1100))&&rightR t.rk&&coversT t.cv
theorem sTerms (t:Tm) (hl:t.cv.length≤9223372036854775807):Ctr Tryz.prog 67 [vTm t] [] (.d (.bool (rightTm t))) [] []:=by
 have ca:=sAll (dTm t) _ _ _ _ (sTm1 t) (sTm2 t) (sTm3 t) (sTm4 t hl)
 simp only [fnM,dTm] at ca
 refine qP Tryz.func67 fun c hP hfn=>?_;simp only [vTm,cTm,vcd,↓vcp,seval]
 refine TR.wk _ (Wk.pubF 1 rfl rfl) ?_
 simp only [vcd,↓vcp,seval]
 refine TR.call [(7,.lit 25 1 4 [.fn (.func 111) [] [.mem (dTm t)],.fn (.func 112) [] [.mem (dTm t)],.fn (.func 113) [] [.mem (dTm t)],.fn (.func 115) [] [.mem (dTm t)]])] [] _ [] (by rw [hP];exact ca) (by repeat' first|exact trivial|(intro _;assumption)|apply And.intro) (hin1 rfl) (by simp [keysO]) (by simp) ?_
 simp only [vcd,↓vcp,seval]
 repeat' first|refine ⟨fun h=>?_,fun h=>?_⟩|refine aX ?_|fail
 exact rr
end Go.Proofs.YtmccbkekpjgdbaaGreat
end
section
namespace Go.Proofs.YtmccbkekpjgdbaaGreat
open Go.Bx
set_option maxRecDepth 10000
theorem TR.gpv {c:Ctx} {b:Bool} {is:List I} {st:St} {acc:List Lg} {K:List Lg→St→Prop} {P:Program} (hP:c.P=P) {d:Option Nat} {s:Nat} {want gc:Bool} {x:X} {f:Nat} {first cap:List V} {xs:List X} {res:V} (hg:gOf st.env s want=some gc)
  (hx:gc=true→evV st x=.fn (.func f) first cap) (hS:gc=true→Ctr P f (first++(evVs st xs++cap)) [] res [] []) (hsx:gc=true→evS true st x) (hs:gc=true→evSs true st xs)
  (h:vcR c b is (st.stp d { val:=.gd gc res,upd:=[],rd:=[],new:=[] }) (lgs b acc ⟨[],[]⟩) K):TR c b (⟨d,some (s,want),.callv x xs⟩::is) st acc K:=
 TR.cons { val:=.gd gc res,upd:=[],rd:=[],new:=[] } (valid_gd_pure hg fun e=>valid_callv (hx e) (by rw [hP];exact hS e) (hsx e) (hs e) (fun k o h=>by simp at h) (by simp [keysO])) (fun k hk=>by simp at hk) (vcR_ok h)
def fD (g:Nat):D:=.raw (.func (.func g) #[] #[])
def ckF (m:Int):D:=if m=4 then fD 155 else if m=3 then fD 154 else if m=2 then fD 153 else if m=1 then fD 152 else .raw .nilFunc
theorem sChecks:Ctr Tryz.prog 108 [] [] (.osl 1) [(1,.mp (.raw .nilFunc) ckF)] [1]:=by
 refine qO Tryz.func108 ?_
 intro c hP hfn
 simp only [namesL,V.names,ownNames,vcd,↓vcp,seval]
 have hne:∀ g,¬ (D.raw (Value.func (.func g) #[] #[])=D.raw Value.nilFunc):=fun g h=>by injection h with h;cases h
 refine ⟨hne _,hne _,hne _,hne _,rK (Wk.refl _ _) ?_⟩
 simp only [enb,vcd,↓vcp,seval]
 exact OLe.eq rfl
def rightCh (c:Ch):Bool:=decide (c.kd=1∨c.kd=2∨c.kd=3∨c.kd=4)&&dayB c.bk&&dayB c.dy&&(if c.kd=1 then ck1 c else if c.kd=2 then ck2 c else if c.kd=3 then ck3 c else ck4 c)
theorem sRightCh (c':Ch) (hl:c'.cv.length≤9223372036854775807):Ctr Tryz.prog 65 [vCh c'] [] (.d (.bool (rightCh c'))) [] []:=by
 have k1:=sCk1 c'
 have k2:=sCk2 c' hl
 have k3:=sCk3 c'
 have k4:=sCk4 c'
 have d1:=sDay
 simp only [vCh,cCh,slC] at k1 k2 k3 k4
 refine qP Tryz.func65 fun c hP hfn=>?_;simp only [vCh,cCh,slC,vcd,↓vcp,seval]
 have cc:=(sChecks.sw 1 6)
 simp only [vcd,↓vcp,seval] at cc
 refine TR.call [] [(6,.mp (.raw .nilFunc) ckF)] (.osl 6) [6] (by rw [hP];exact cc) (by repeat' first|exact trivial|(intro _;assumption)|apply And.intro) (fun k o h=>by simp at h) (by simp [keysO]) (by simp) ?_
 clear cc
 have f1:ckF 1=fD 152:=rfl
 have f2:ckF 2=fD 153:=rfl
 have f3:ckF 3=fD 154:=rfl
 have f4:ckF 4=fD 155:=rfl
 have zA:(#[]:Array Value).size=0:=rfl
 by_cases hb:(dayB c'.bk&&dayB c'.dy)=true
 ·have hb':dayB c'.bk=true∧dayB c'.dy=true:=by simpa using hb
  have hr:c'.kd=1∨c'.kd=2∨c'.kd=3∨c'.kd=4∨(¬ c'.kd=1∧¬ c'.kd=2∧¬ c'.kd=3∧¬ c'.kd=4):=by omega
  rcases hr with e1|e1|e1|e1|⟨e1,e2,e3,e4⟩
  ·have hr:rightCh c'=ck1 c':=by simp [rightCh,e1,hb'.1,hb'.2]
   rw [hr]
   simp only [dayB] at hb
   clear hr hb'
   rw [e1] at k1 ⊢
   simp only [f1,fD,okV,zA,e1,vcd,↓vcp,seval]
   repeat' first|(refine tq hP (h:=⟨_,fun _=>by exact d1 _,?_⟩);try simp only [hb,zA,vcd,↓vcp,seval])|refine ⟨fun h=>?_,fun h=>?_⟩|refine aX ?_|fail
   refine TR.gpv (gc:=true) hP rfl (fun _=>rfl) (fun _=>k1) (by intro _;simp only [vcd,↓vcp,seval]) (by intro _;simp only [vcd,↓vcp,seval]) ?_
   simp only [vcd,↓vcp,seval]
   repeat' first|refine ⟨fun h=>?_,fun h=>?_⟩|refine aX ?_|fail
   exact rr
  ·have hr:rightCh c'=ck2 c':=by simp [rightCh,e1,hb'.1,hb'.2]
   rw [hr]
   simp only [dayB] at hb
   clear hr hb'
   rw [e1] at k2 ⊢
   simp only [f2,fD,okV,zA,e1,vcd,↓vcp,seval]
   repeat' first|(refine tq hP (h:=⟨_,fun _=>by exact d1 _,?_⟩);try simp only [hb,zA,vcd,↓vcp,seval])|refine ⟨fun h=>?_,fun h=>?_⟩|refine aX ?_|fail
   refine TR.gpv (gc:=true) hP rfl (fun _=>rfl) (fun _=>k2) (by intro _;simp only [vcd,↓vcp,seval]) (by intro _;simp only [vcd,↓vcp,seval]) ?_
   simp only [vcd,↓vcp,seval]
   repeat' first|refine ⟨fun h=>?_,fun h=>?_⟩|refine aX ?_|fail
   exact rr
  ·have hr:rightCh c'=ck3 c':=by simp [rightCh,e1,hb'.1,hb'.2]
   rw [hr]
   simp only [dayB] at hb
   clear hr hb'
   rw [e1] at k3 ⊢
   simp only [f3,fD,okV,zA,e1,vcd,↓vcp,seval]
   repeat' first|(refine tq hP (h:=⟨_,fun _=>by exact d1 _,?_⟩);try simp only [hb,zA,vcd,↓vcp,seval])|refine ⟨fun h=>?_,fun h=>?_⟩|refine aX ?_|fail
   refine TR.gpv (gc:=true) hP rfl (fun _=>rfl) (fun _=>k3) (by intro _;simp only [vcd,↓vcp,seval]) (by intro _;simp only [vcd,↓vcp,seval]) ?_
   simp only [vcd,↓vcp,seval]
   repeat' first|refine ⟨fun h=>?_,fun h=>?_⟩|refine aX ?_|fail
   exact rr
  ·have hr:rightCh c'=ck4 c':=by simp [rightCh,e1,hb'.1,hb'.2]
   rw [hr]
   simp only [dayB] at hb
   clear hr hb'
   rw [e1] at k4 ⊢
   simp only [f4,fD,okV,zA,e1,vcd,↓vcp,seval]
   repeat' first|(refine tq hP (h:=⟨_,fun _=>by exact d1 _,?_⟩);try simp only [hb,zA,vcd,↓vcp,seval])|refine ⟨fun h=>?_,fun h=>?_⟩|refine aX ?_|fail
   refine TR.gpv (gc:=true) hP rfl (fun _=>rfl) (fun _=>k4) (by intro _;simp only [vcd,↓vcp,seval]) (by intro _;simp only [vcd,↓vcp,seval]) ?_
   simp only [vcd,↓vcp,seval]
   repeat' first|refine ⟨fun h=>?_,fun h=>?_⟩|refine aX ?_|fail
   exact rr
  ·have hr:rightCh c'=false:=by simp [rightCh,e1,e2,e3,e4]
   have f0:ckF c'.kd=.raw .nilFunc:=by simp [ckF,e1,e2,e3,e4]
   rw [hr]
   simp only [f0,okV,vcd,↓vcp,seval]
   repeat' first|(refine tq hP (h:=⟨_,fun _=>by exact d1 _,?_⟩);try simp only [vcd,↓vcp,seval])|refine ⟨fun h=>?_,fun h=>?_⟩|refine aX ?_|fail
   refine TR.gpv (gc:=false) (first:=[]) (cap:=[]) (f:=0) (res:=.d (.bool false)) hP rfl (fun h=>by cases h) (fun h=>by cases h) (fun h=>by cases h) (fun h=>by cases h) ?_
   simp only [vcd,↓vcp,seval]
   repeat' first|refine ⟨fun h=>?_,fun h=>?_⟩|refine aX ?_|fail
   exact rr
 ·have hb0:(dayB c'.bk&&dayB c'.dy)=false:=by simpa using hb
  have hr:rightCh c'=false:=by
   simp only [rightCh,Bool.and_assoc]
   rw [←Bool.and_assoc (dayB c'.bk),hb0];simp
  rw [hr]
  simp only [dayB] at hb0
  have hr4:c'.kd=1∨c'.kd=2∨c'.kd=3∨c'.kd=4∨(¬ c'.kd=1∧¬ c'.kd=2∧¬ c'.kd=3∧¬ c'.kd=4):=by omega
  clear hr hb
  rcases hr4 with e1|e1|e1|e1|⟨e1,e2,e3,e4⟩
  ·simp only [f1,fD,okV,zA,e1,vcd,↓vcp,seval]
   repeat' first|(refine tq hP (h:=⟨_,fun _=>by exact d1 _,?_⟩);try simp only [hb0,zA,vcd,↓vcp,seval])|refine ⟨fun h=>?_,fun h=>?_⟩|refine aX ?_|fail
   refine TR.gpv (gc:=false) (first:=[]) (cap:=[]) (f:=0) (res:=.d (.bool false)) hP rfl (fun h=>by cases h) (fun h=>by cases h) (fun h=>by cases h) (fun h=>by cases h) ?_
   simp only [vcd,↓vcp,seval]
   repeat' first|refine ⟨fun h=>?_,fun h=>?_⟩|refine aX ?_|fail
   exact rr
  ·simp only [f2,fD,okV,zA,e1,vcd,↓vcp,seval]
   repeat' first|(refine tq hP (h:=⟨_,fun _=>by exact d1 _,?_⟩);try simp only [hb0,zA,vcd,↓vcp,seval])|refine ⟨fun h=>?_,fun h=>?_⟩|refine aX ?_|fail
   refine TR.gpv (gc:=false) (first:=[]) (cap:=[]) (f:=0) (res:=.d (.bool false)) hP rfl (fun h=>by cases h) (fun h=>by cases h) (fun h=>by cases h) (fun h=>by cases h) ?_
   simp only [vcd,↓vcp,seval]
   repeat' first|refine ⟨fun h=>?_,fun h=>?_⟩|refine aX ?_|fail
   exact rr
  ·simp only [f3,fD,okV,zA,e1,vcd,↓vcp,seval]
   repeat' first|(refine tq hP (h:=⟨_,fun _=>by exact d1 _,?_⟩);try simp only [hb0,zA,vcd,↓vcp,seval])|refine ⟨fun h=>?_,fun h=>?_⟩|refine aX ?_|fail
   refine TR.gpv (gc:=false) (first:=[]) (cap:=[]) (f:=0) (res:=.d (.bool false)) hP rfl (fun h=>by cases h) (fun h=>by cases h) (fun h=>by cases h) (fun h=>by cases h) ?_
   simp only [vcd,↓vcp,seval]
   repeat' first|refine ⟨fun h=>?_,fun h=>?_⟩|refine aX ?_|fail
   exact rr
  ·simp only [f4,fD,okV,zA,e1,vcd,↓vcp,seval]
   repeat' first|(refine tq hP (h:=⟨_,fun _=>by exact d1 _,?_⟩);try simp only [hb0,zA,vcd,↓vcp,seval])|refine ⟨fun h=>?_,fun h=>?_⟩|refine aX ?_|fail
   refine TR.gpv (gc:=false) (first:=[]) (cap:=[]) (f:=0) (res:=.d (.bool false)) hP rfl (fun h=>by cases h) (fun h=>by cases h) (fun h=>by cases h) (fun h=>by cases h) ?_
   simp only [vcd,↓vcp,seval]
   repeat' first|refine ⟨fun h=>?_,fun h=>?_⟩|refine aX ?_|fail
   exact rr
  ·have f0:ckF c'.kd=.raw .nilFunc:=by simp [ckF,e1,e2,e3,e4]
   simp only [f0,okV,vcd,↓vcp,seval]
   repeat' first|(refine tq hP (h:=⟨_,fun _=>by exact d1 _,?_⟩);try simp only [hb0,vcd,↓vcp,seval])|refine ⟨fun h=>?_,fun h=>?_⟩|refine aX ?_|fail
   refine TR.gpv (gc:=false) (first:=[]) (cap:=[]) (f:=0) (res:=.d (.bool false)) hP rfl (fun h=>by cases h) (fun h=>by cases h) (fun h=>by cases h) (fun h=>by cases h) ?_
   simp only [vcd,↓vcp,seval]
   repeat' first|refine ⟨fun h=>?_,fun h=>?_⟩|refine aX ?_|fail
   exact rr
end Go.Proofs.YtmccbkekpjgdbaaGreat
end
section
namespace Go.Proofs.YtmccbkekpjgdbaaGreat
open Go.Bx
set_option maxRecDepth 10000
def inT (t:Tm) (d:Int):Bool:=decide (d≥(keptR t.sf t.st).1)&&decide (d<(keptR t.sf t.st).2)
def rightHi (h:Hi):Bool:=h.ch.all (fun c=>rightCh c&&inT h.tm c.dy)&&(rightTm h.tm&&decide (h.ch.length≤2000))
structure SzHi (h:Hi):Prop where
 tc:h.tm.cv.length≤9223372036854775807
 ch:h.ch.length≤9223372036854775807
 cc:∀ c,c∈h.ch→c.cv.length≤9223372036854775807
theorem sRightHi (hh:Hi) (z:SzHi hh):Ctr Tryz.prog 34 [vHi hh] [] (.d (.bool (rightHi hh))) [] []:=by
 refine qP Tryz.func34 fun c hP hfn=>?_;simp only [vHi,cHi,slH,vcd,↓vcp,seval]
 refine vcC.loop (X:=Nat) (fun k=>⟨[(1,.own 1 0),(6,.d (slH hh.ch)),(7,.d (.int .i64 hh.ch.length)),(8,.d (.int .i64 k))],[(1,.fix (cHi hh))],[1]⟩)
  (fun k=>k≤hh.ch.length∧hh.ch.all (fun c=>rightCh c&&inT hh.tm c.dy)=(hh.ch.drop k).all (fun c=>rightCh c&&inT hh.tm c.dy)) (fun k=>hh.ch.length-k) 0 ⟨Nat.zero_le _,rfl⟩ (Wk.of _ hfn rfl (by simp only [slH,enb,vcd,↓vcp,seval]) (by simp only [cHi,slH,enb,vcd,↓vcp,seval])) ?_
 rintro k ⟨hk,he⟩
 by_cases hlt:k<hh.ch.length
 ·obtain ⟨c',hd,hg,hm,-⟩:=drop_at hlt
  have d0:decide ((k:Int)<(hh.ch.length:Int))=true:=decide_eq_true (by have:=z.ch;omega)
  have ewk:IntKind.i64.wrap ((k:Int)+1)=((k+1:Nat):Int):=wS (by have:=z.ch;omega)
  have cc:=sRightCh c' (z.cc c' hm)
  have ci:=sIn hh.tm.sf hh.tm.st c'.dy
  simp only [vCh,cCh,slC] at cc
  simp only [vS] at ci
  rw [hd,List.all_cons] at he
  simp only [slH,dCh,slC,cHi,hg,d0,ewk,vcd,↓vcp,seval]
  repeat' first|(refine tq hP (h:=⟨_,fun _=>by first|exact cc|exact ci,?_⟩);try simp only [hg,ewk,vcd,↓vcp,seval])|refine ⟨fun h=>?_,fun h=>?_⟩|refine aX ?_|fail
  ·have hx:(rightCh c'&&inT hh.tm c'.dy)=false:=by
    cases h1:rightCh c' with
    |false=>rfl
    |true =>
     rw [h1] at h
     cases h2:inT hh.tm c'.dy with
     |false=>rfl
     |true=>exfalso;simp only [inT] at h2;rw [h2] at h;simp at h
   have e:rightHi hh=false:=by rw [rightHi,he,hx];rfl
   (refine rq ?_;first|exact ⟨⟩|rw [e])
  ·have hx:(rightCh c'&&inT hh.tm c'.dy)=true:=by
    cases h1:rightCh c' with
    |false=>rw [h1] at h;simp at h
    |true =>
     rw [h1] at h
     cases h2:inT hh.tm c'.dy with
     |true=>rfl
     |false=>exfalso;simp only [inT] at h2;rw [h2] at h;simp at h
   rw [hx,Bool.true_and] at he
   exact lopK.on (k+1) ⟨hlt,he⟩ (by omega) (Wk.of _ hfn rfl (by simp only [slH,dCh,slC,enb,vcd,↓vcp,seval]) (by simp only [cHi,slH,dCh,slC,enb,vcd,↓vcp,seval]))
 ·have d0:decide ((k:Int)<(hh.ch.length:Int))=false:=decide_eq_false (by have:=z.ch;omega)
  rw [List.drop_eq_nil_of_le (by omega),List.all_nil] at he
  have ct:=sTerms hh.tm z.tc
  simp only [vTm,cTm] at ct
  have e:rightHi hh=(rightTm hh.tm&&decide ((hh.ch.length:Int)≤2000)):=by
   rw [rightHi,he,Bool.true_and]
   congr 1
   exact decide_eq_decide.2 (by omega)
  simp only [slH,cHi,d0,vcd,↓vcp,seval]
  repeat' first|(refine tq hP (h:=⟨_,fun _=>by exact ct,?_⟩);try simp only [vcd,↓vcp,seval])|refine ⟨fun h=>?_,fun h=>?_⟩|refine aX ?_|fail
  (refine rq ?_;first|exact ⟨⟩|rw [e])
end Go.Proofs.YtmccbkekpjgdbaaGreat
end
