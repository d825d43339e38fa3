import Derived.Test.YtakohhkgeeoniaaGreatXA12
import Derived.Test.YtakohhkgeeoniaaGreatRows
import Derived.KernelRfl
set_option linter.unusedSimpArgs false
set_option linter.unusedVariables false
set_option maxHeartbeats 8000000
section
namespace Go.Proofs.YtakohhkgeeoniaaGreat
open Go.Bx
set_option maxRecDepth 10000
theorem rz {g:Nat} {cf:Az→Az→Int} {ok:Az→Prop} (hc:Tl g cf ok) (L:List Az) (hok:∀ x,x∈L→ok x) (hl:L.length≤1000000) :
  Aj Tryz.prog 88 [.osl 900,.d (.int .i64 (L.length:Int)),Bo g] [(900,A8 L)] (.tup []) [(900,A8 (srt (Bq cf) [] L))] []:=by
 refine qO Tryz.func88 ?_
 intro c hP hfn
 obtain ⟨n,hn⟩:∃ n,n=L.length:=⟨_,rfl⟩
 rw [←hn]
 simp only [A5,V.names,A4,A8,Bo,A0,↓A3,seval]
 refine B4.loop (X:=Nat×List Az) (λx=>⟨[(0,.osl 900),(1,.d (.int .i64 (n:Int))),(2,Bo g),(6,.d (.int .i64 20)),(7,.d (.int .i64 (x.1:Nat))),(8,.d (.int .i64 ((x.1+20:Nat):Int)))],[(900,A8 x.2)],[900]⟩)
  (λx=>∃ P Z,x.1=P.length∧P.length+Z.length=n∧x.2=P++Z∧(∀ y,y∈Z→ok y)∧sb (Bq cf) 20 L=P++sb (Bq cf) 20 Z) (λx=>n-x.1) (0,L) ⟨[],L,rfl,by simp [hn],rfl,hok,rfl⟩ (Wk.of _ hfn rfl (by simp only [Bo,A7,A0,↓A3,seval]) (by simp only [A8,A7,A0,↓A3,seval])) ?_
 rintro ⟨a,r⟩ ⟨P,Z,ha,hn2,hr,hz,hs⟩
 simp only at ha hr
 by_cases hlt:20≤Z.length
 ·have d0:decide (((a+20:Nat):Int)≤(n:Int))=true:=decide_eq_true (by omega)
  have w1:IntKind.i64.wrap (((a+20:Nat):Int)+20)=((a+20+20:Nat):Int):=(wI (by omega)).trans (by omega)
  have cc:=Zc hc P (Z.take 20) (Z.drop 20) (λx hx=>hz x (List.mem_of_mem_take hx)) (by rw [List.length_take,List.length_drop];omega)
  rw [List.take_append_drop,←hr,←ha,List.length_take,Nat.min_eq_left hlt] at cc
  simp only [A8,Bo] at cc
  simp only [A8,Bo,d0,A0,↓A3,seval]
  repeat' first|refine ⟨λh=>?_,λh=>?_⟩|refine aX ?_|fail
  refine tC [(900,A8 r)] [(900,A8 (P++(srt (Bq cf) [] (Z.take 20)++Z.drop 20)))] hP cc (B7 rfl) ?_
  simp only [w1,A0,↓A3,seval]
  repeat' first|refine ⟨λh=>?_,λh=>?_⟩|refine aX ?_|fail
  refine Al.on (a+20,P++(srt (Bq cf) [] (Z.take 20)++Z.drop 20)) ⟨P++srt (Bq cf) [] (Z.take 20),Z.drop 20,?_,?_,by simp,λy hy=>hz y (List.mem_of_mem_drop hy),?_⟩ (by simp only;omega) (Wk.of _ hfn rfl (by simp only [Bo,w1,A7,A0,↓A3,seval]) (by simp only [A8,A7,A0,↓A3,seval]))
  ·rw [List.length_append,F1,List.length_take];simp only [List.length_nil];omega
  ·rw [List.length_append,F1,List.length_take,List.length_drop];simp only [List.length_nil];omega
  ·rw [hs,Fk (by decide) hlt];simp
 ·have d0:decide (((a+20:Nat):Int)≤(n:Int))=false:=decide_eq_false (by omega)
  have cc:=Zc hc P Z [] hz (by simp only [List.length_nil];omega)
  rw [List.append_nil,←hr,←ha,show a+Z.length=n by omega] at cc
  have hs2:P++(srt (Bq cf) [] Z++[])=sb (Bq cf) 20 L:=by rw [hs,Dm (by omega)];simp
  rw [hs2] at cc
  simp only [A8,Bo] at cc
  simp only [A8,Bo,d0,A0,↓A3,seval]
  repeat' first|refine ⟨λh=>?_,λh=>?_⟩|refine aX ?_|fail
  refine tC [(900,A8 r)] [(900,A8 (sb (Bq cf) 20 L))] hP cc (B7 rfl) ?_
  clear cc hs2 d0 hlt hs hz hr hn2 ha
  simp only [A0,↓A3,seval]
  refine B4.loop (X:=Nat) (λw=>⟨[(0,.osl 900),(1,.d (.int .i64 (n:Int))),(2,Bo g),(6,.d (.int .i64 (w:Nat)))],[(900,A8 (sb (Bq cf) w L))],[900]⟩)
   (λw=>0<w∧w≤2*n+20) (λw=>n-w) 20 ⟨by decide,by omega⟩ (Wk.of _ hfn rfl (by simp only [Bo,A7,A0,↓A3,seval]) (by simp only [A8,A7,A0,↓A3,seval])) ?_
  rintro w ⟨hw0,hw1⟩
  by_cases hwn:w<n
  ·have d0:decide ((w:Int)<(n:Int))=true:=decide_eq_true (by omega)
   have w2:IntKind.i64.wrap (2*(w:Int))=((2*w:Nat):Int):=(wI (by omega)).trans (by omega)
   have w3:IntKind.i64.wrap ((w:Int)*2)=((2*w:Nat):Int):=(wI (by omega)).trans (by omega)
   simp only [A8,Bo,d0,w2,A0,↓A3,seval]
   repeat' first|refine ⟨λh=>?_,λh=>?_⟩|refine aX ?_|fail
   refine B4.loop (X:=Nat×List Az) (λx=>⟨[(0,.osl 900),(1,.d (.int .i64 (n:Int))),(2,Bo g),(6,.d (.int .i64 (w:Nat))),(7,.d (.int .i64 (x.1:Nat))),(8,.d (.int .i64 ((x.1+2*w:Nat):Int)))],[(900,A8 x.2)],[900]⟩)
    (λx=>∃ P Z,x.1=P.length∧P.length+Z.length=n∧x.2=P++sb (Bq cf) w Z∧(∀ y,y∈Z→ok y)∧sb (Bq cf) (2*w) L=P++sb (Bq cf) (2*w) Z) (λx=>n-x.1) (0,sb (Bq cf) w L) ⟨[],L,rfl,by simp [hn],rfl,hok,rfl⟩ (Wk.of _ hfn rfl (by simp only [Bo,Nat.zero_add,A7,A0,↓A3,seval]) (by simp only [A8,A7,A0,↓A3,seval])) ?_
   rintro ⟨a,r⟩ ⟨P,Z,ha,hn2,hr,hz,hs⟩
   simp only at ha hr
   have w4:IntKind.i64.wrap ((a:Int)+(w:Int))=((a+w:Nat):Int):=(wI (by omega)).trans (by omega)
   have okT:∀ (M:List Az),(∀ x,x∈M→x∈Z)→∀ x,x∈srt (Bq cf) [] M→ok x:=λM hM x hx=>hz x (hM x (by simpa using (Fo (Bq cf) M []).mem_iff.1 hx))
   have slen:∀ (M:List Az),(srt (Bq cf) [] M).length=M.length:=λM=>by rw [F1];simp
   by_cases hlt:2*w≤Z.length
   ·have d1:decide (((a+2*w:Nat):Int)≤(n:Int))=true:=decide_eq_true (by omega)
    have w5:IntKind.i64.wrap (((a+2*w:Nat):Int)+((2*w:Nat):Int))=((a+2*w+2*w:Nat):Int):=(wI (by omega)).trans (by omega)
    have e1:sb (Bq cf) w Z=srt (Bq cf) [] (Z.take w)++(srt (Bq cf) [] ((Z.drop w).take w)++sb (Bq cf) w (Z.drop (2*w))):=by
     rw [Fk hw0 (by omega),Fk hw0 (l:=Z.drop w) (by rw [List.length_drop];omega),List.drop_drop,show w+w=2*w by omega]
    have e2:Bt (Bq cf) (srt (Bq cf) [] (Z.take w)) (srt (Bq cf) [] ((Z.drop w).take w))=srt (Bq cf) [] (Z.take (2*w)):=by
     rw [Oo hc.w,show 2*w=w+w by omega,List.take_add]
    have l1:(srt (Bq cf) [] (Z.take w)).length=w:=by rw [slen,List.length_take];omega
    have l2:(srt (Bq cf) [] ((Z.drop w).take w)).length=w:=by rw [slen,List.length_take,List.length_drop];omega
    have l3:(sb (Bq cf) w (Z.drop (2*w))).length=Z.length-2*w:=by rw [sb,Xi hw0,List.length_drop]
    have cc:=tSym hc (w+w) P (srt (Bq cf) [] (Z.take w)) (srt (Bq cf) [] ((Z.drop w).take w)) (sb (Bq cf) w (Z.drop (2*w))) a (a+w) (a+2*w) ha (by omega) (by omega) (by omega) (by omega) (by omega) (C7 hc.w _ [] List.Pairwise.nil) (C7 hc.w _ [] List.Pairwise.nil)
     (λx hx=>by
      rcases List.mem_append.1 hx with h|h
      ·exact okT _ (λy hy=>List.mem_of_mem_take hy) x h
      ·exact okT _ (λy hy=>List.mem_of_mem_drop (List.mem_of_mem_take hy)) x h) (by omega)
    rw [←e1,←hr,e2] at cc
    simp only [A8,Bo] at cc
    simp only [A8,Bo,d1,w2,w4,A0,↓A3,seval]
    repeat' first|refine ⟨λh=>?_,λh=>?_⟩|refine aX ?_|fail
    refine tC [(900,A8 r)] [(900,A8 (P++(srt (Bq cf) [] (Z.take (2*w))++sb (Bq cf) w (Z.drop (2*w)))))] hP cc (B7 rfl) ?_
    clear cc
    simp only [w2,w5,A0,↓A3,seval]
    repeat' first|refine ⟨λh=>?_,λh=>?_⟩|refine aX ?_|fail
    refine Al.on (a+2*w,P++(srt (Bq cf) [] (Z.take (2*w))++sb (Bq cf) w (Z.drop (2*w)))) ⟨P++srt (Bq cf) [] (Z.take (2*w)),Z.drop (2*w),?_,?_,by simp,λy hy=>hz y (List.mem_of_mem_drop hy),?_⟩ (by simp only;omega) (Wk.of _ hfn rfl (by simp only [Bo,w5,A7,A0,↓A3,seval]) (by simp only [A8,A7,A0,↓A3,seval]))
    ·rw [List.length_append,slen,List.length_take];simp only;omega
    ·rw [List.length_append,slen,List.length_take,List.length_drop];omega
    ·rw [hs,Fk (by omega) hlt];simp
   ·have d1:decide (((a+2*w:Nat):Int)≤(n:Int))=false:=decide_eq_false (by omega)
    have e3:sb (Bq cf) (2*w) L=P++srt (Bq cf) [] Z:=by rw [hs,Dm (by omega)]
    by_cases hm:w<Z.length
    ·have d2:decide (((a+w:Nat):Int)<(n:Int))=true:=decide_eq_true (by omega)
     have e1:sb (Bq cf) w Z=srt (Bq cf) [] (Z.take w)++(srt (Bq cf) [] (Z.drop w)++[]):=by
      rw [Fk hw0 (by omega),Dm (l:=Z.drop w) (by rw [List.length_drop];omega),List.append_nil]
     have e2:Bt (Bq cf) (srt (Bq cf) [] (Z.take w)) (srt (Bq cf) [] (Z.drop w))=srt (Bq cf) [] Z:=by
      rw [Oo hc.w,List.take_append_drop]
     have l1:(srt (Bq cf) [] (Z.take w)).length=w:=by rw [slen,List.length_take];omega
     have l2:(srt (Bq cf) [] (Z.drop w)).length=Z.length-w:=by rw [slen,List.length_drop]
     have cc:=tSym hc (w+w) P (srt (Bq cf) [] (Z.take w)) (srt (Bq cf) [] (Z.drop w)) [] a (a+w) n ha (by omega) (by omega) (by omega) (by omega) (by omega) (C7 hc.w _ [] List.Pairwise.nil) (C7 hc.w _ [] List.Pairwise.nil)
      (λx hx=>by
       rcases List.mem_append.1 hx with h|h
       ·exact okT _ (λy hy=>List.mem_of_mem_take hy) x h
       ·exact okT _ (λy hy=>List.mem_of_mem_drop hy) x h) (by simp only [List.length_nil];omega)
     rw [←e1,←hr,e2,List.append_nil,←e3] at cc
     simp only [A8,Bo] at cc
     simp only [A8,Bo,d1,d2,w3,w4,A0,↓A3,seval]
     repeat' first|refine ⟨λh=>?_,λh=>?_⟩|refine aX ?_|fail
     refine tC [(900,A8 r)] [(900,A8 (sb (Bq cf) (2*w) L))] hP cc (B7 rfl) ?_
     clear cc
     simp only [w3,A0,↓A3,seval]
     repeat' first|refine ⟨λh=>?_,λh=>?_⟩|refine aX ?_|fail
     exact Al.on (2*w) ⟨by omega,by omega⟩ (by omega) (Wk.of _ hfn rfl (by simp only [Bo,w3,A7,A0,↓A3,seval]) (by simp only [A8,A7,A0,↓A3,seval]))
    ·have d2:decide (((a+w:Nat):Int)<(n:Int))=false:=decide_eq_false (by omega)
     have e4:r=sb (Bq cf) (2*w) L:=by rw [hr,e3,Dm (by omega)]
     simp only [A8,Bo,d1,d2,w3,w4,A0,↓A3,seval]
     repeat' first|refine ⟨λh=>?_,λh=>?_⟩|refine aX ?_|fail
     exact Al.on (2*w) ⟨by omega,by omega⟩ (by omega) (Wk.of _ hfn rfl (by simp only [Bo,w3,A7,A0,↓A3,seval]) (by simp only [A8,e4,A7,A0,↓A3,seval]))
  ·have d0:decide ((w:Int)<(n:Int))=false:=decide_eq_false (by omega)
   have e:sb (Bq cf) w L=srt (Bq cf) [] L:=Dm (by omega)
   simp only [A8,Bo,d0,e,A0,↓A3,seval]
   repeat' first|refine ⟨λh=>?_,λh=>?_⟩|refine aX ?_|fail
   refine Et (Wk.refl _ _) ?_
   simp only [A7,A0,↓A3,seval]
theorem tSort {g:Nat} {cf:Az→Az→Int} {ok:Az→Prop} (hc:Tl g cf ok) (L:List Az) (hok:∀ x,x∈L→ok x) (hl:L.length≤1000000) :
  Aj Tryz.prog 57 [.osl 900,Bo g] [(900,A8 L)] (.tup []) [(900,A8 (srt (Bq cf) [] L))] []:=by
 refine qO Tryz.func57 ?_
 intro c hP hfn
 have cc:=rz hc L hok hl
 simp only [A8,Bo] at cc
 simp only [A5,V.names,A4,A8,Bo,A0,↓A3,seval]
 refine tC [(900,A8 L)] [(900,A8 (srt (Bq cf) [] L))] hP cc (B7 rfl) ?_
 simp only [A0,↓A3,seval]
 repeat' first|refine ⟨λh=>?_,λh=>?_⟩|refine aX ?_|fail
 refine Et (Wk.refl _ _) ?_
 simp only [A8,A7,A0,↓A3,seval]
def vj:List Int→Int
 |[]=>0
 |a::r=>if (a != 0)=true then a else vj r
theorem sOr (l:List Int) (hl:l.length≤1000000):Aj Tryz.prog 89 [.d (slK .i64 l)] [] (.d (.int .i64 (vj l))) [] []:=by
 refine qP Tryz.func89 λc hP hfn=>?_;simp only [slK,A0,↓A3,seval]
 refine B4.loop (X:=Nat) (λk=>⟨[(3,.d (.int .i64 0)),(6,.d (slK .i64 l)),(7,.d (.int .i64 l.length)),(8,.d (.int .i64 (k:Nat)))],[],[]⟩)
  (λk=>k≤l.length∧vj l=vj (l.drop k)) (λk=>l.length-k) 0 ⟨Nat.zero_le _,rfl⟩ (Wk.of _ hfn rfl (by simp only [slK,A7,A0,↓A3,seval]) (by simp only [A7,A0,↓A3,seval])) ?_
 rintro k ⟨hk,he⟩
 by_cases hlt:k<l.length
 ·obtain ⟨a,hd,hg,-,-⟩:=Ae hlt
  have hg:=hg 0
  have d0:decide ((k:Int)<(l.length:Int))=true:=decide_eq_true (by omega)
  have w1:IntKind.i64.wrap ((k:Int)+1)=((k+1:Nat):Int):=wS (by omega)
  have b1:(0:Int)≤(k:Int)∧(k:Int)<(l.length:Int):=by omega
  rw [hd,vj] at he
  simp only [slK,hg,d0,w1,A0,↓A3,seval]
  repeat' first|refine ⟨λh=>?_,λh=>?_⟩|refine aX ?_|fail
  ·rw [if_pos h] at he
   (refine rq ?_;first|exact ⟨⟩|rw [he])
  ·rw [if_neg (by rw [h];simp)] at he
   exact Al.on (k+1) ⟨hlt,he⟩ (by omega) (Wk.of _ hfn rfl (by simp only [slK,w1,A7,A0,↓A3,seval]) (by simp only [A7,A0,↓A3,seval]))
 ·have hk2:k=l.length:=by omega
  have d0:decide ((k:Int)<(l.length:Int))=false:=decide_eq_false (by omega)
  rw [hk2,List.drop_length,vj] at he
  simp only [slK,d0,A0,↓A3,seval]
  repeat' first|refine ⟨λh=>?_,λh=>?_⟩|refine aX ?_|fail
  (refine rq ?_;first|exact ⟨⟩|rw [he])
theorem sOr' {full:Bool} {n:Nat} {ds:List D} {l:List Int} (h:Pv .i64 ds l) (hn:n=l.length) (hl:l.length≤1000000):Aj Tryz.prog 89 [.d (.sl full 1 n (litRow 1 ds))] [] (.d (.int .i64 (vj l))) [] []:=
 (sOr l hl).arg ⟨h.vle hn,trivial⟩
def Vy (s t:Az):Int:=vj [Rn s.ac.bk t.ac.bk,Rn (s.fi:Int) (t.fi:Int)]
theorem nz (s t:Az):Aj Tryz.prog 58 [vT s,vT t] [] (.d (.int .i64 (Vy s t))) [] []:=by
 refine qP Tryz.func58 λc hP hfn=>?_;simp only [vT,A0,↓A3,seval]
 repeat' first|(refine tq hP (h:=⟨_,λ_=>by first|exact xz _ _|exact sOr' (by repeat constructor) (by rfl) (by simp),?_⟩);try simp only [A0,↓A3,seval])|refine ⟨λh=>?_,λh=>?_⟩|refine aX ?_|fail
 exact rr
theorem pb:Bq Vy=ql:=by
 funext s t
 rw [Bool.eq_iff_iff,Ut]
 simp only [Bq,Vy,vj,Rn,decide_eq_true_eq,bne_iff_ne,ne_eq]
 by_cases h1:s.ac.bk<t.ac.bk
 ·simp [h1]
 ·by_cases h2:t.ac.bk<s.ac.bk
  ·simp [h1,h2];omega
  ·have h3:s.ac.bk=t.ac.bk:=by omega
   by_cases h4:s.fi<t.fi
   ·simp [h3,h4]
   ·by_cases h5:t.fi<s.fi<;>simp [h3,h4,h5]
theorem uw:Tl 58 Vy (λ_=>True):=⟨by rw [pb];exact swoS,λa b _ _=>nz a b⟩
def cPr (p:Nat×Int×Int):List D:=[.int .i64 (p.1:Int),.int .i64 p.2.1,.int .i64 p.2.2]
def na (l:List (Nat×Int×Int)):D:=.sl false 3 l.length (λi=>cPr (l.getD i default))
def V6 (l:List (Nat×Int×Int)):Go.Bx.Own:=.row 68 3 l.length (λi=>cPr (l.getD i default))
def U0 (g:Nat→Int) (n:Nat):Go.Bx.Own:=.row 3 1 n (λi=>[.int .i64 (g i)])
def Sj (c:Cv) (l:List Fi):List (Nat×Int×Int)×Int:=if Cb c l=0 then ((Ce c l).rows,0) else ([],Cb c l)
theorem Xh (l:List Fi) (k:Nat) (f:Fi) (h:l[k]?=some f):B6 0 (l.take (k+1))=B6 0 (l.take k)++f.ac.map λa=>(⟨k,a⟩:Az):=by
 have hk:k<l.length:=(List.getElem?_eq_some_iff.1 h).1
 rw [List.take_add_one,h,Q6,List.length_take,Nat.min_eq_left (by omega),Nat.zero_add]
 simp [B6]
theorem Bf.updN {e n:Nat} {g:Nat→Int} {i:Nat} {u v:Int} (h:u=v):Bf (.row e 1 n (λm=>if m=i then Db [.int .i64 (g i)] 0 [.int .i64 u] else [.int .i64 (g m)])) (.row e 1 n (λm=>[.int .i64 (F4 g i v m)])):=by
 subst h
 refine Bf.row rfl λm hm=>?_
 unfold F4
 by_cases h:m=i
 ·rw [if_pos h,if_pos h];rfl
 ·rw [if_neg h,if_neg h]
theorem sPaidF (k':Cv) (l:List Fi) (hl:ShF l) (hli:R8 k'.li) (hag:R8 k'.ag) (hsh:R8 k'.sh):Aj Tryz.prog 29 [vC k',.d (Ig l)] [] (.tup [.d (na (Sj k' l).1),.d (.int .i64 (Sj k' l).2)]) [] []:=by
 have ck:=vf k' l hl
 simp only [vC,cC] at ck
 by_cases he:Cb k' l=0
 ·rw [Sj,if_pos he]
  rw [he] at ck
  have R:=P8 he
  have hf:=R.fine hli hag
  obtain ⟨hl1,hs⟩:=hl
  have Ra:=R.a
  obtain ⟨L,hL⟩:∃ L,L=B6 0 l:=⟨_,rfl⟩
  have hLl:L.length≤2000:=by rw [hL,Io];exact Ra
  have cs:=(tSort uw L (λ_ _=>trivial) (by omega)).sw 900 1000
  have eS:srt (Bq Vy) [] L=G5 L:=by rw [pb];rfl
  rw [eS] at cs
  obtain ⟨S,hS⟩:∃ S,S=G5 L:=⟨_,rfl⟩
  have hSl:S.length≤2000:=by rw [hS,(Fb L).length_eq];exact hLl
  have hok:∀ k s,S[k]?=some s→jb k' l.length (Fd (Bj k') (S.take k)) s:=λk s h=>by
   rw [hS,hL] at h ⊢
   exact aq R hf h
  have hrows:Ce k' l=Fd (Bj k') S:=by rw [Ce,hS,hL]
  rw [←hS] at cs
  rw [hrows]
  have hroom0:l.length*8≤140737488355328∧l.length≤maxLen:=⟨by omega,by simp only [maxLen];omega⟩
  simp only [A8,Bo,A0,↓A3,seval] at cs
  have hsl:∀ k,(B6 0 (l.take k)).length≤10000000000:=λk=>by
   have h1:=Pr (l:=l.take k) λg hg=>hs g (List.mem_of_mem_take hg)
   rw [List.length_take] at h1
   rw [Io];omega
  simp only [Ig,Cz] at ck
  refine qP Tryz.func29 λc hP hfn=>?_;simp only [vC,cC,Ig,Cz,A0,↓A3,seval]
  repeat' first|(refine tz hP ck ?_;try simp only [A0,↓A3,seval])|refine ⟨λh=>?_,λh=>?_⟩|refine aX ?_|fail
  refine B4.loop (X:=Nat) (λk=>⟨[(7,.osl 1000),(1,.d (Ig l)),(2,.own 2 0),(25,.d (Ig l)),(26,.d (.int .i64 l.length)),(27,.d (.int .i64 (k:Nat)))],[(1000,A8 (B6 0 (l.take k))),(2,.fix (cC k'))],[1000,2]⟩)
   (λk=>k≤l.length) (λk=>l.length-k) 0 (Nat.zero_le _) ?_ ?_
  ·refine (Wk.row0 (s:=7) (k:=1000) (e:=164) (sz:=4) (f':=λ_=>[]) rfl rfl (by simp)).trans (Wk.of _ hfn rfl ?_ ?_)
   ·simp only [Ig,Cz,A7,A0,↓A3,seval]
   ·simp only [A8,cC,List.take_zero,B6,A7,A0,↓A3,seval];exact Bf.row rfl (λi hi=>absurd hi (Nat.not_lt_zero i))
  intro k hk
  by_cases hlt:k<l.length
  ·obtain ⟨f,-,hg,hm,hat⟩:=Ae hlt
   have hg:=hg default
   have d0:decide ((k:Int)<(l.length:Int))=true:=decide_eq_true (by omega)
   have w1:IntKind.i64.wrap ((k:Int)+1)=((k+1:Nat):Int):=wS (by omega)
   have hfl:=hs f hm
   have hst:=Xh l k f hat
   obtain ⟨G,hG⟩:∃ G,G=B6 0 (l.take k):=⟨_,rfl⟩
   have hGl:G.length≤10000000000:=by rw [hG];exact hsl k
   rw [←hG] at hst
   simp only [←hG,A8,Ig,Cz,Dr,Gh,hg,d0,w1,A0,↓A3,seval]
   repeat' first|refine ⟨λh=>?_,λh=>?_⟩|refine aX ?_|fail
   refine B4.loop (X:=Nat) (λj=>⟨[(7,.osl 1000),(1,.d (Ig l)),(2,.own 2 0),(8,.d (.int .i64 (k:Nat))),(25,.d (Ig l)),(26,.d (.int .i64 l.length)),(27,.d (.int .i64 (k:Nat))),(33,.d (Dr f.ac)),(34,.d (.int .i64 f.ac.length)),(35,.d (.int .i64 (j:Nat)))],[(1000,A8 (G++(f.ac.take j).map λa=>(⟨k,a⟩:Az))),(2,.fix (cC k'))],[1000,2]⟩)
    (λj=>j≤f.ac.length) (λj=>f.ac.length-j) 0 (Nat.zero_le _) (Wk.of _ hfn rfl (by simp only [Ig,Cz,Dr,Gh,A7,A0,↓A3,seval]) (by simp only [A8,cC,List.take_zero,List.map_nil,List.append_nil,A7,A0,↓A3,seval])) ?_
   intro j hj
   by_cases hjt:j<f.ac.length
   ·obtain ⟨a,-,hga,-,hata⟩:=Ae hjt
    have hga:=hga default
    have d1:decide ((j:Int)<(f.ac.length:Int))=true:=decide_eq_true (by omega)
    have w2:IntKind.i64.wrap ((j:Int)+1)=((j+1:Nat):Int):=wS (by omega)
    obtain ⟨K,hK⟩:∃ K,K=G++(f.ac.take j).map λa=>(⟨k,a⟩:Az):=⟨_,rfl⟩
    have hKt:(G++(f.ac.take (j+1)).map λa=>(⟨k,a⟩:Az))=K++[⟨k,a⟩]:=by
     rw [List.take_add_one,hata,hK];simp
    have hKl:K.length≤10000100000:=by rw [hK,List.length_append,List.length_map,List.length_take];omega
    have hroom:(K.length+1)*32≤140737488355328∧K.length+1≤maxLen:=⟨by omega,by simp only [maxLen];omega⟩
    simp only [←hK,A8,Dr,Gh,hga,d1,w2,A0,↓A3,seval]
    repeat' first|refine ⟨λh=>?_,λh=>?_⟩|refine aX ?_|fail
    exact Al.on (j+1) hjt (by omega) (Wk.snoc (k:=44) _ hfn rfl rfl rfl rfl (Bf.appE cT hKt (λi hi=>if_pos hi) (by simp [litRow])) (by (simp only [Ig,Cz,Dr,Gh,w2,A7,A0,↓A3,seval])<;>(first|exact wS (by omega)|(rw [List.length_append];exact wS (by omega))|assumption)) (by simp only [A7,A0,↓A3,seval]) (by simp) (by simp only [A7,A0,↓A3,seval]) (by simp only [A7,A0,↓A3,seval]))
   ·have hj2:j=f.ac.length:=by omega
    have d1:decide ((j:Int)<(f.ac.length:Int))=false:=decide_eq_false (by omega)
    rw [hj2,List.take_length,←hst]
    rw [hj2] at d1
    simp only [A8,Dr,Gh,d1,w1,A0,↓A3,seval]
    repeat' first|refine ⟨λh=>?_,λh=>?_⟩|refine aX ?_|fail
    exact Al.on (k+1) hlt (by omega) (Wk.of _ hfn rfl (by simp only [Ig,Cz,Dr,Gh,w1,A7,A0,↓A3,seval]) (by simp only [A8,cC,A7,A0,↓A3,seval]))
  ·have hk2:k=l.length:=by omega
   have d0:decide ((k:Int)<(l.length:Int))=false:=decide_eq_false (by omega)
   rw [hk2,List.take_length,←hL]
   rw [hk2] at d0
   clear hsl hk hk2 hlt ck hs
   simp only [A8,Ig,Cz,d0,A0,↓A3,seval]
   repeat' first|refine ⟨λh=>?_,λh=>?_⟩|refine aX ?_|fail
   refine tC [(1000,A8 L)] [(1000,A8 S)] hP cs (B7 rfl) ?_
   simp only [A8,A0,↓A3,seval]
   repeat' first|refine ⟨λh=>?_,λh=>?_⟩|refine aX ?_|fail
   refine B4.loop (X:=Nat) (λk=>⟨[(15,.osl 1001),(2,.own 2 0),(12,.osl 51),(13,.osl 54),(14,.d (.int .i64 (Fd (Bj k') (S.take k)).al)),(55,.osl 1000),(56,.d (.int .i64 S.length)),(57,.d (.int .i64 (k:Nat)))],
     [(1001,V6 (Fd (Bj k') (S.take k)).rows),(2,.fix (cC k')),(1000,A8 S),(51,U0 (Fd (Bj k') (S.take k)).sh l.length),(54,U0 (Fd (Bj k') (S.take k)).pd l.length)],[1001,2,1000,51,54]⟩)
    (λk=>k≤S.length) (λk=>S.length-k) 0 (Nat.zero_le _) ?_ ?_
   ·refine (Wk.row0 (s:=15) (k:=1001) (e:=68) (sz:=3) (f':=λ_=>[]) rfl rfl (by simp)).trans (Wk.of _ hfn rfl ?_ ?_)
    ·simp only [List.take_zero,Fd,List.foldl_nil,qj,A7,A0,↓A3,seval]
    ·simp only [A8,U0,V6,cC,List.take_zero,Fd,List.foldl_nil,qj,A7,A0,↓A3,seval];exact Bf.row rfl (λi hi=>absurd hi (Nat.not_lt_zero i))
   intro k hk
   by_cases hlt:k<S.length
   ·obtain ⟨s,-,hg,hm,hat⟩:=Ae hlt
    have hg:=hg sd
    obtain ⟨o1,o2,o3,o4,o5,o6,o7⟩:=hok k s hat
    have d0:decide ((k:Int)<(S.length:Int))=true:=decide_eq_true (by omega)
    have w1:IntKind.i64.wrap ((k:Int)+1)=((k+1:Nat):Int):=wS (by omega)
    have b0:(0:Int)≤(k:Int)∧(k:Int)<(S.length:Int):=by omega
    have b1:(0:Int)≤(s.fi:Int)∧(s.fi:Int)<(l.length:Int):=by omega
    have et:Fd (Bj k') (S.take (k+1))=E9 (Bj k') (Fd (Bj k') (S.take k)) s:=by
     rw [List.take_add_one,hat,Fd,List.foldl_append];rfl
    have hrl:(Fd (Bj k') (S.take k)).rows.length≤2000:=by
     have h1:=P1 (Bj k') (S.take k) qj
     have h2:qj.rows.length=0:=rfl
     rw [List.length_take,h2] at h1
     rw [Fd];omega
    generalize Fd (Bj k') (S.take k)=x at *
    by_cases hkd:s.ac.kd=2
    ·have n1:(s.ac.kd != 2)=false:=by rw [hkd];rfl
     have o4:=o4.2 hkd
     have wa:IntKind.i64.wrap (x.sh s.fi+s.ac.am)=x.sh s.fi+s.ac.am:=wI (by omega)
     have wb:IntKind.i64.wrap (x.al-x.pd s.fi)=x.al-x.pd s.fi:=wI (by omega)
     have cp:=pj k' (x.sh s.fi+s.ac.am) (x.al-x.pd s.fi) hli.2 hsh.2
     simp only [vC,cC] at cp
     have et0:=et
     rw [E9,if_neg (by rw [hkd];simp)] at et
     obtain ⟨F,hF⟩:∃ F,F=Bj k' (x.sh s.fi+s.ac.am) (x.al-x.pd s.fi):=⟨_,rfl⟩
     rw [←hF] at et cp o7
     have wc:IntKind.i64.wrap (F-x.pd s.fi)=F-x.pd s.fi:=wI (by omega)
     by_cases hmo:F-x.pd s.fi≤0
     ·rw [if_pos hmo] at et
      have d1:decide (F-x.pd s.fi≤0)=true:=decide_eq_true hmo
      simp only [A8,U0,V6,cC,hg,d0,w1,n1,wa,wb,wc,d1,A0,↓A3,seval]
      repeat' first|(refine tz hP cp ?_;try simp only [hg,w1,n1,wa,wb,wc,d1,A0,↓A3,seval])|refine ⟨λh=>?_,λh=>?_⟩|refine aX ?_|fail
      exact Al.on (k+1) hlt (by omega) (Wk.of _ hfn rfl (by simp only [et,w1,A7,A0,↓A3,seval]) (by simp only [et,A8,U0,V6,cC,A7,A0,↓A3,seval];exact Bf.updN rfl))
     ·rw [if_neg hmo] at et
      have d1:decide (F-x.pd s.fi≤0)=false:=decide_eq_false hmo
      have wd:IntKind.i64.wrap (x.pd s.fi+(F-x.pd s.fi))=x.pd s.fi+(F-x.pd s.fi):=wI (by omega)
      have we:IntKind.i64.wrap (x.al+(F-x.pd s.fi))=x.al+(F-x.pd s.fi):=wI (by omega)
      have hroom:(x.rows.length+1)*24≤140737488355328∧x.rows.length+1≤maxLen:=⟨by omega,by simp only [maxLen];omega⟩
      obtain ⟨y,hy⟩:∃ y,y=Fd (Bj k') (S.take (k+1)):=⟨_,rfl⟩
      rw [←hy] at et
      obtain ⟨e1,e2,e3,e4⟩:y.sh=F4 x.sh s.fi (x.sh s.fi+s.ac.am)∧y.pd=F4 x.pd s.fi (x.pd s.fi+(F-x.pd s.fi))∧y.al=x.al+(F-x.pd s.fi)∧y.rows=x.rows++[(s.fi,s.ac.bk,F-x.pd s.fi)]:=by rw [et];exact ⟨rfl,rfl,rfl,rfl⟩
      simp only [A8,U0,V6,cPr,cC,hg,d0,w1,n1,wa,wb,wc,d1,wd,we,A0,↓A3,seval]
      repeat' first|(refine tz hP cp ?_;try simp only [hg,w1,n1,wa,wb,wc,d1,wd,we,A0,↓A3,seval])|refine ⟨λh=>?_,λh=>?_⟩|refine aX ?_|fail
      refine Al.on (k+1) hlt (by omega) ?_
      simp only [←hy,e1,e2,e3]
      exact (Wk.snoc (k:=120) _ hfn rfl rfl rfl rfl (Bf.appE cPr e4 (λi hi=>if_pos hi) (by simp [litRow,cPr])) (by (simp only [w1,we,A7,A0,↓A3,seval])<;>(first|exact wS (by omega)|(rw [List.length_append];exact wS (by omega))|assumption)) (by simp only [A7,A0,↓A3,seval];exact ⟨Bf.updN rfl,Bf.updN rfl⟩) (by simp) (by simp only [A7,A0,↓A3,seval]) (by simp only [A7,A0,↓A3,seval]))
    ·have n1:(s.ac.kd != 2)=true:=by rw [bne_iff_ne];exact hkd
     rw [E9,if_pos hkd] at et
     simp only [A8,U0,V6,cC,hg,d0,w1,n1,A0,↓A3,seval]
     repeat' first|refine ⟨λh=>?_,λh=>?_⟩|refine aX ?_|fail
     exact Al.on (k+1) hlt (by omega) (Wk.of _ hfn rfl (by simp only [et,w1,A7,A0,↓A3,seval]) (by simp only [et,A8,U0,V6,cC,A7,A0,↓A3,seval]))
   ·have hk2:k=S.length:=by omega
    have d0:decide ((k:Int)<(S.length:Int))=false:=decide_eq_false (by omega)
    rw [hk2,List.take_length]
    rw [hk2] at d0
    simp only [A8,U0,V6,d0,A0,↓A3,seval]
    repeat' first|refine ⟨λh=>?_,λh=>?_⟩|refine aX ?_|fail
    refine rK (Wk.pub 1001 rfl) trivial ?_
    simp only [na,B8,A0,↓A3,seval]
    exact Ag.refl _
 ·rw [Sj,if_neg he]
  have n0:(Cb k' l != 0)=true:=by rw [bne_iff_ne];exact he
  generalize Cb k' l=e at *
  refine qP Tryz.func29 λc hP hfn=>?_;simp only [vC,cC,A0,↓A3,seval]
  repeat' first|(refine tz hP ck ?_;try simp only [n0,A0,↓A3,seval])|refine ⟨λh=>?_,λh=>?_⟩|refine aX ?_|fail
  all_goals
   refine rp ?_
   simp only [B8,A0,↓A3,seval]
   exact Ag.tups ⟨C2,Ag.refl _,trivial⟩
end Go.Proofs.YtakohhkgeeoniaaGreat
end
section
namespace Go.Proofs.YtakohhkgeeoniaaGreat
open Go.Bx
structure Po where
 gr:Int
 sh:Int
 pd:Int
 bc:Int
 rs:Int
 op:Bool
instance:Inhabited Po:=⟨⟨0,0,0,0,0,false⟩⟩
abbrev Rp:=Nat×Int×Int
def On (R:List Rp) (j k:Nat):Int:=(((R.take j).filter λp=>decide (p.1=k)).map (·.2.2)).sum
def T8 (R:List Rp) (j:Nat):Int:=((R.take j).map (·.2.2)).sum
theorem ll {R:List Rp} {j:Nat} {r:Rp} (h:R[j]?=some r):On R (j+1)=F4 (On R j) r.1 (On R j r.1+r.2.2):=by
 funext k
 have ht:R.take (j+1)=R.take j++[r]:=by rw [List.take_add_one,h];rfl
 unfold F4
 rw [On,ht,List.filter_append,List.map_append,List.sum_append]
 by_cases e:k=r.1
 ·rw [if_pos e,e];simp [On]
 ·rw [if_neg e];simp [On,Ne.symm e]
theorem lk {R:List Rp} {j:Nat} {r:Rp} (h:R[j]?=some r):T8 R (j+1)=T8 R j+r.2.2:=by
 have ht:R.take (j+1)=R.take j++[r]:=by rw [List.take_add_one,h];rfl
 rw [T8,ht,List.map_append,List.sum_append];simp [T8]
theorem Pw {R:List Rp} (h:∀ p,p∈R→0<p.2.2) (q:Rp→Bool):0≤((R.filter q).map (·.2.2)).sum∧((R.filter q).map (·.2.2)).sum≤(R.map (·.2.2)).sum:=by
 induction R with
 |nil=>simp
 |cons r R ih =>
  have h1:=ih λp hp=>h p (by simp [hp])
  have h2:=h r (by simp)
  rw [List.filter_cons]
  split
  ·simp only [List.map_cons,List.sum_cons];omega
  ·simp only [List.map_cons,List.sum_cons];omega
theorem iw {R:List Rp} (h:∀ p,p∈R→0<p.2.2) (j:Nat):0≤T8 R j∧T8 R j≤(R.map (·.2.2)).sum:=by
 have h1:=Pw (R:=R.take j) (λp hp=>h p (List.mem_of_mem_take hp)) λ_=>true
 have h2:=Pw (R:=R.drop j) (λp hp=>h p (List.mem_of_mem_drop hp)) λ_=>true
 have h3:(R.map (·.2.2)).sum=((R.take j).map (·.2.2)).sum+((R.drop j).map (·.2.2)).sum:=by
  rw [←List.sum_append,←List.map_append,List.take_append_drop]
 rw [List.filter_eq_self.2 λ_ _=>rfl] at h1 h2
 unfold T8;omega
theorem pdJ_le {R:List Rp} (h:∀ p,p∈R→0<p.2.2) (j k:Nat):0≤On R j k∧On R j k≤T8 R j:=Pw (R:=R.take j) (λp hp=>h p (List.mem_of_mem_take hp)) _
def J5 (l:List Fi) (k:Nat):Po:=⟨(max (Bm (l.getD k default).ac).gr (Bm (l.getD k default).ac).sh),(Bm (l.getD k default).ac).sh,0,(Bm (l.getD k default).ac).bc,0,(Bm (l.getD k default).ac).op⟩
def Nz (c:Cv) (p:Po) (u:Int):Int:=max 0 (IntKind.i64.wrap (Bj c p.gr (IntKind.i64.wrap (u-p.pd))-p.pd))
def Fu (c:Cv) (g:Nat→Po) (u:Int):Nat→Int×(Nat→Int)
 |0=>(u,λ_=>0)
 |k+1=>if (g k).op=false then Fu c g u k else (IntKind.i64.wrap ((Fu c g u k).1+Nz c (g k) (Fu c g u k).1),F4 (Fu c g u k).2 k (Nz c (g k) (Fu c g u k).1))
def Gn (g:Nat→Po) (f:Nat→Int) (k:Nat):Po:={ g k with pd:=f k }
def I3 (g:Nat→Po) (f:Nat→Int) (k:Nat):Po:={ g k with rs:=f k }
def O2 (c:Cv) (l:List Fi):Nat→Po:=Gn (J5 l) (On (Ce c l).rows (Ce c l).rows.length)
def Ts (c:Cv) (l:List Fi):Nat→Po:=I3 (O2 c l) (Fu c (O2 c l) (T8 (Ce c l).rows (Ce c l).rows.length) l.length).2
def nL (c:Cv) (l:List Fi):Nat:=if Cb c l=0 then l.length else 0
structure RowsOk (c:Cv) (l:List Fi):Prop where
 ps:∀ p,p∈(Ce c l).rows→0<p.2.2
 fi:∀ p,p∈(Ce c l).rows→p.1<l.length
 bk:∀ p,p∈(Ce c l).rows→∃ s,s∈B6 0 l∧p.1=s.fi∧p.2.1=s.ac.bk
 al:0≤(Ce c l).al∧(Ce c l).al≤1000000000000000
 sum:(Ce c l).al=((Ce c l).rows.map (·.2.2)).sum
 len:(Ce c l).rows.length≤2000
theorem qz {c:Cv} {l:List Fi} (h:H9 c l) (hf:Ri c):RowsOk c l:=by
 have hag:=hf.ag
 have hde:=hf.de
 have hli:=hf.li
 have hp:=Ue (by omega) hag (Oq hf) (G5 (B6 0 l)) _ (Nat.le_refl _)
 rw [List.take_length] at hp
 obtain ⟨R,h1,h2,-⟩:=Wa (Bj c) (G5 (B6 0 l)) qj
 have hR:(Ce c l).rows=R:=by rw [Ce,Fd,h1];rfl
 have hm:∀ p,p∈R→∃ s,s∈B6 0 l∧p.1=s.fi∧p.2.1=s.ac.bk:=λp hp=>by
  obtain ⟨-,s,hs,h3⟩:=h2 p hp
  exact ⟨s,(Fb _).mem_iff.1 hs,h3⟩
 have hal:=hp.al
 refine ⟨λp hp=>(h2 p (hR▸hp)).1,λp hp=>?_,λp hp=>hm p (hR▸hp),⟨hal.1,by have h9:=hal.2;show (Fd _ _).al≤_;omega⟩,hp.sum,?_⟩
 ·obtain ⟨s,hs,h3,-⟩:=hm p (hR▸hp)
  obtain ⟨-,f,h4,-⟩:=Iw hs
  rw [h3];exact (List.getElem?_eq_some_iff.1 h4).1
 ·have h3:=P1 (Bj c) (G5 (B6 0 l)) qj
  have h4:qj.rows.length=0:=rfl
  rw [(Fb _).length_eq,Io,h4] at h3
  have:=h.a
  rw [Ce,Fd];omega
end Go.Proofs.YtakohhkgeeoniaaGreat
end
section
namespace Go.Proofs.YtakohhkgeeoniaaGreat
open Go.Bx
set_option maxRecDepth 10000
def Kc (p:Po):List D:=[.int .i64 p.gr,.int .i64 p.sh,.int .i64 p.pd,.int .i64 p.bc,.int .i64 p.rs,.bool p.op]
def Kz (g:Nat→Po) (n:Nat):D:=.sl false 6 n (λi=>Kc (g i))
def D5 (g:Nat→Po) (n:Nat):Go.Bx.Own:=.row 49 6 n (λi=>Kc (g i))
def wg (c:Cv) (l:List Fi):D×Int:=(Kz (Ts c l) (nL c l),Cb c l)
theorem Bf.withPd {e n:Nat} {g:Nat→Po} {f:Nat→Int} {i:Nat} {v:Int}:Bf (.row e 6 n (λm=>if m=i then Db (Kc (Gn g f i)) 2 [.int .i64 v] else Kc (Gn g f m))) (.row e 6 n (λm=>Kc (Gn g (F4 f i v) m))):=by
 refine Bf.row rfl λm hm=>?_
 unfold F4
 by_cases h:m=i
 ·subst h;rw [if_pos rfl];simp [Kc,Gn,Db]
 ·rw [if_neg h];simp [Kc,Gn,h]
theorem Bf.withRs {e n:Nat} {g:Nat→Po} {f:Nat→Int} {i:Nat} {v:Int}:Bf (.row e 6 n (λm=>if m=i then Db (Kc (I3 g f i)) 4 [.int .i64 v] else Kc (I3 g f m))) (.row e 6 n (λm=>Kc (I3 g (F4 f i v) m))):=by
 refine Bf.row rfl λm hm=>?_
 unfold F4
 by_cases h:m=i
 ·subst h;rw [if_pos rfl];simp [Kc,I3,Db]
 ·rw [if_neg h];simp [Kc,I3,h]
theorem sOfL (k':Cv) (l:List Fi) (hl:ShF l) (hli:R8 k'.li) (hag:R8 k'.ag) (hsh:R8 k'.sh):Aj Tryz.prog 12 [vC k',.d (Ig l)] [] (.tup [.d (wg k' l).1,.d (.int .i64 (wg k' l).2)]) [] []:=by
 have cp:=sPaidF k' l hl hli hag hsh
 simp only [vC,cC] at cp
 by_cases he:Cb k' l=0
 ·rw [wg,nL,if_pos he,he]
  rw [Sj,if_pos he] at cp
  have R:=P8 he
  have hf:=R.fine hli hag
  obtain ⟨r1,r2,-,r4,r5,r6⟩:=qz R hf
  obtain ⟨hl1,hs⟩:=hl
  have n0:((0:Int) != 0)=false:=rfl
  have hof:Ts k' l=I3 (Gn (J5 l) (On (Ce k' l).rows (Ce k' l).rows.length)) (Fu k' (Gn (J5 l) (On (Ce k' l).rows (Ce k' l).rows.length)) (T8 (Ce k' l).rows (Ce k' l).rows.length) l.length).2:=rfl
  rw [hof]
  clear hof he
  rw [r5] at r4
  have u1:∀ j,0≤T8 (Ce k' l).rows j∧T8 (Ce k' l).rows j≤1000000000000000:=λj=>⟨(iw r1 j).1,Int.le_trans (iw r1 j).2 r4.2⟩
  have u2:=pdJ_le r1
  clear r5 r4
  generalize (Ce k' l).rows=Q at *
  simp only [na,Ig,Cz] at cp
  refine qP Tryz.func12 λc hP hfn=>?_;simp only [vC,cC,Ig,Cz,A0,↓A3,seval]
  repeat' first|(refine tz hP cp ?_;try simp only [n0,A0,↓A3,seval])|refine ⟨λh=>?_,λh=>?_⟩|refine aX ?_|fail
  refine B4.loop (X:=Nat) (λk=>⟨[(8,.osl 1000),(2,.own 2 0),(6,.d (na Q)),(26,.d (Ig l)),(27,.d (.int .i64 l.length)),(28,.d (.int .i64 (k:Nat)))],[(1000,D5 (J5 l) k),(2,.fix (cC k'))],[1000,2]⟩)
   (λk=>k≤l.length) (λk=>l.length-k) 0 (Nat.zero_le _) ?_ ?_
  ·refine (Wk.row0 (s:=8) (k:=1000) (e:=49) (sz:=6) (f':=λ_=>[]) rfl rfl (by simp)).trans (Wk.of _ hfn rfl ?_ ?_)
   ·simp only [Ig,Cz,na,A7,A0,↓A3,seval]
   ·simp only [D5,cC,A7,A0,↓A3,seval];exact Bf.row rfl (λi hi=>absurd hi (Nat.not_lt_zero i))
  intro k hk
  by_cases hlt:k<l.length
  ·obtain ⟨f,-,hg,hm,hat⟩:=Ae hlt
   have hg:=hg default
   have d0:decide ((k:Int)<(l.length:Int))=true:=decide_eq_true (by omega)
   have w1:IntKind.i64.wrap ((k:Int)+1)=((k+1:Nat):Int):=wS (by omega)
   have cs:=ar f (by have:=hs f hm;omega)
   have eb:J5 l k=⟨(max (Bm f.ac).gr (Bm f.ac).sh),(Bm f.ac).sh,0,(Bm f.ac).bc,0,(Bm f.ac).op⟩:=by rw [J5,hg]
   have hroom:(k+1)*48≤140737488355328∧k+1≤maxLen:=⟨by omega,by simp only [maxLen];omega⟩
   simp only [Jc,Gk,vQ,cQ,dv] at cs
   simp only [D5,Ig,Cz,hg,d0,w1,A0,↓A3,seval]
   repeat' first|(refine tz hP cs ?_;try simp only [hg,w1,A0,↓A3,seval])|refine ⟨λh=>?_,λh=>?_⟩|refine aX ?_|fail
   refine Al.on (k+1) hlt (by omega) (Wk.snoc (k:=36) _ hfn rfl rfl rfl rfl (Bf.row rfl λi hi=>?_) (by (simp only [Ig,Cz,w1,A7,A0,↓A3,seval])<;>(first|exact wS (by omega)|(rw [List.length_append];exact wS (by omega))|assumption)) (by simp only [A7,A0,↓A3,seval]) (by simp) (by simp only [A7,A0,↓A3,seval]) (by simp only [A7,A0,↓A3,seval]))
   by_cases h:i<k
   ·rw [if_pos h]
   ·have:i=k:=by omega
    subst this
    rw [if_neg h,eb];simp [Kc]
  ·have hk2:k=l.length:=by omega
   have d0:decide ((k:Int)<(l.length:Int))=false:=decide_eq_false (by omega)
   rw [hk2]
   rw [hk2] at d0
   clear hk hk2 hlt hs cp
   have hb0:∀ i,Gn (J5 l) (On Q 0) i=J5 l i:=λi=>rfl
   have hb1:∀ u i,I3 (Gn (J5 l) (On Q Q.length)) (Fu k' (Gn (J5 l) (On Q Q.length)) u 0).2 i=Gn (J5 l) (On Q Q.length) i:=λu i=>rfl
   have hu0:T8 Q 0=0:=rfl
   generalize J5 l=G at *
   simp only [D5,Ig,Cz,na,d0,A0,↓A3,seval]
   repeat' first|refine ⟨λh=>?_,λh=>?_⟩|refine aX ?_|fail
   refine B4.loop (X:=Nat) (λj=>⟨[(8,.osl 1000),(2,.own 2 0),(11,.d (.int .i64 (T8 Q j))),(38,.d (na Q)),(39,.d (.int .i64 Q.length)),(40,.d (.int .i64 (j:Nat)))],[(1000,D5 (Gn G (On Q j)) l.length),(2,.fix (cC k'))],[1000,2]⟩)
    (λj=>j≤Q.length) (λj=>Q.length-j) 0 (Nat.zero_le _) (Wk.of _ hfn rfl (by simp only [na,hu0,A7,A0,↓A3,seval]) (by simp only [D5,cC,hb0,A7,A0,↓A3,seval])) ?_
   clear hb0 hu0
   intro j hj
   by_cases hjt:j<Q.length
   ·obtain ⟨r,-,hg,hm,hat⟩:=Ae hjt
    have hg:=hg default
    have d1:decide ((j:Int)<(Q.length:Int))=true:=decide_eq_true (by omega)
    have w1:IntKind.i64.wrap ((j:Int)+1)=((j+1:Nat):Int):=wS (by omega)
    have b0:(0:Int)≤(j:Int)∧(j:Int)<(Q.length:Int):=by omega
    have b1:(0:Int)≤(r.1:Int)∧(r.1:Int)<(l.length:Int):=by have:=r2 r hm;omega
    have e1:=ll hat
    have e2:=lk hat
    have h1:=u1 j
    have h2:=u1 (j+1)
    have h3:=u2 j r.1
    have h4:=u2 (j+1) r.1
    have h5:On Q (j+1) r.1=On Q j r.1+r.2.2:=by rw [e1];simp [F4]
    have wa:IntKind.i64.wrap (On Q j r.1+r.2.2)=On Q j r.1+r.2.2:=wI (by omega)
    have wb:IntKind.i64.wrap (T8 Q j+r.2.2)=T8 Q j+r.2.2:=wI (by omega)
    simp only [D5,Kc,Gn,na,cPr,hg,d1,w1,wa,wb,A0,↓A3,seval]
    repeat' first|refine ⟨λh=>?_,λh=>?_⟩|refine aX ?_|fail
    refine Al.on (j+1) hjt (by omega) (Wk.of _ hfn rfl (by simp only [na,cPr,e2,w1,wb,A7,A0,↓A3,seval]) ?_)
    simp only [D5,e1,A7,A0,↓A3,seval]
    exact Bf.withPd (g:=G) (f:=On Q j) (i:=r.1)
   ·have hj2:j=Q.length:=by omega
    have d1:decide ((j:Int)<(Q.length:Int))=false:=decide_eq_false (by omega)
    rw [hj2]
    rw [hj2] at d1
    clear u1 u2 r1 r2 hj2 hjt hj
    generalize T8 Q Q.length=u at *
    generalize Gn G (On Q Q.length)=P at *
    have hb1:=hb1 u
    simp only [D5,na,d1,A0,↓A3,seval]
    repeat' first|refine ⟨λh=>?_,λh=>?_⟩|refine aX ?_|fail
    refine B4.loop (X:=Nat) (λk=>⟨[(2,.own 2 0),(8,.osl 1000),(11,.d (.int .i64 (Fu k' P u k).1)),(60,.osl 1000),(61,.d (.int .i64 l.length)),(62,.d (.int .i64 (k:Nat)))],[(1000,D5 (I3 P (Fu k' P u k).2) l.length),(2,.fix (cC k'))],[1000,2]⟩)
     (λk=>k≤l.length) (λk=>l.length-k) 0 (Nat.zero_le _) (Wk.of _ hfn rfl (by simp only [Fu,A7,A0,↓A3,seval]) (by simp only [D5,cC,hb1,A7,A0,↓A3,seval])) ?_
    clear hb1
    intro k hk
    by_cases hlt:k<l.length
    ·have d0:decide ((k:Int)<(l.length:Int))=true:=decide_eq_true (by omega)
     have w1:IntKind.i64.wrap ((k:Int)+1)=((k+1:Nat):Int):=wS (by omega)
     have b0:(0:Int)≤(k:Int)∧(k:Int)<(l.length:Int):=by omega
     obtain ⟨H,hH⟩:∃ H,H=Fu k' P u k:=⟨_,rfl⟩
     have eh:Fu k' P u (k+1)=if (P k).op=false then H else (IntKind.i64.wrap (H.1+Nz k' (P k) H.1),F4 H.2 k (Nz k' (P k) H.1)):=by rw [Fu,←hH]
     simp only [←hH]
     cases hop:(P k).op with
     |false =>
      rw [if_pos hop] at eh
      simp only [D5,Kc,I3,d0,w1,hop,A0,↓A3,seval]
      repeat' first|refine ⟨λh=>?_,λh=>?_⟩|refine aX ?_|fail
      exact Al.on (k+1) hlt (by omega) (Wk.of _ hfn rfl (by simp only [eh,w1,A7,A0,↓A3,seval]) (by simp only [eh,D5,Kc,I3,A7,A0,↓A3,seval]))
     |true =>
      rw [if_neg (by rw [hop];simp)] at eh
      have cq:=pj k' (P k).gr (IntKind.i64.wrap (H.1-(P k).pd)) hli.2 hsh.2
      simp only [vC,cC] at cq
      simp only [D5,Kc,I3,cC,d0,w1,hop,A0,↓A3,seval]
      repeat' first|(refine tz hP cq ?_;try simp only [w1,hop,A0,↓A3,seval])|refine ⟨λh=>?_,λh=>?_⟩|refine aX ?_|fail
      refine Al.on (k+1) hlt (by omega) (Wk.of _ hfn rfl (by simp only [eh,Nz,w1,A7,A0,↓A3,seval]) ?_)
      simp only [eh,D5,cC,A7,A0,↓A3,seval]
      have:=Bf.withRs (e:=49) (n:=l.length) (g:=P) (f:=H.2) (i:=k) (v:=Nz k' (P k) H.1)
      simp only [Kc,I3,hop,Nz] at this ⊢
      exact this
    ·have hk2:k=l.length:=by omega
     have d0:decide ((k:Int)<(l.length:Int))=false:=decide_eq_false (by omega)
     rw [hk2]
     rw [hk2] at d0
     simp only [D5,d0,A0,↓A3,seval]
     repeat' first|refine ⟨λh=>?_,λh=>?_⟩|refine aX ?_|fail
     refine rK (Wk.pub 1000 rfl) trivial ?_
     simp only [Kz,B8,A0,↓A3,seval]
     exact Ag.refl _
 ·rw [wg,nL,if_neg he]
  rw [Sj,if_neg he] at cp
  have n0:(Cb k' l != 0)=true:=by rw [bne_iff_ne];exact he
  generalize Cb k' l=e at *
  refine qP Tryz.func12 λc hP hfn=>?_;simp only [vC,cC,A0,↓A3,seval]
  repeat' first|(refine tz hP cp ?_;try simp only [n0,A0,↓A3,seval])|refine ⟨λh=>?_,λh=>?_⟩|refine aX ?_|fail
  all_goals
   refine rp ?_
   simp only [B8,A0,↓A3,seval]
   exact Ag.tups ⟨C2,Ag.refl _,trivial⟩
def Vp (s:Se) (g:Gr):List Fi:=g.at'.map (Hv s)
def N9 (st:Nat→Po):List Int→Nat→(Nat→Po)→Nat→Po
 |[],_,out=>out
 |k::r,i,out=>N9 st r (i+1) (λm=>if m=k.toNat then st i else out m)
theorem Sa (st:Nat→Po) (x:Int):∀ (l:List Int) (i:Nat) (out:Nat→Po),N9 st (l++[x]) i out=λm=>if m=x.toNat then st (i+l.length) else N9 st l i out m
 |[],_,_=>rfl
 |k::r,i,out=>by rw [List.cons_append,N9,Sa st x r,List.length_cons,N9,show i+1+r.length=i+(r.length+1) by omega]
def Lf (s:Se):List Gr→(Nat→Po)→(Nat→Po)×Int
 |[],out=>(out,0)
 |g::r,out=>if Cb g.cv (Vp s g)≠0 then (out,Cb g.cv (Vp s g)) else Lf s r (N9 (Ts g.cv (Vp s g)) g.at' 0 out)
def vk:Nat→Po:=λ_=>⟨0,0,0,0,0,false⟩
def fy (s:Se):Int:=if (Xa s 0 s.fi []).2≠0 then (Xa s 0 s.fi []).2 else (Lf s (Xa s 0 s.fi []).1 vk).2
def jp (s:Se):Nat→Po:=(Lf s (Xa s 0 s.fi []).1 vk).1
structure GrI (s:Se) (k:Nat) (G:List Gr):Prop where
 cv:∀ g,g∈G→Rc g.cv
 at':∀ g,g∈G→g.at'≠[]∧g.at'.length≤k∧∀ x,x∈g.at'→∃ q:Nat,x=q∧q<k
 dj:G.Pairwise λa b=>∀ x,x∈a.at'→x∉b.at'
 len:G.length≤k
theorem covG_I {t:List Vs} {n:Nat} {s:Se} (h:Bd t n s) (f:Fi):Rc (Rt s f).1:=by
 have ha:(∀ c,c∈((Ek s f.cl.po).getD dn).hi.tm.cv→Rc c)∧∀ d,d∈((Ek s f.cl.po).getD dn).hi.ch→∀ c,c∈d.cv→Rc c:=by
  cases e:Ek s f.cl.po with
  |none=>exact ⟨λc h=>by simp [dn,Lz] at h,λd h=>by simp [dn,Lz] at h⟩
  |some a =>
   have:=h.ao.2 a (List.mem_of_find?_eq_some e)
   exact ⟨this.1.2,λd hd=>(this.2.2 d hd).2⟩
 exact covF_Q ha.1 ha.2
theorem GrI.add {s:Se} {k:Nat} {G:List Gr} (h:GrI s k G) {p:Int} {c:Cv} (hc:Rc c):GrI s (k+1) (Lv p c (k:Int) G):=by
 have hk:∀ g,g∈G→∀ x,x∈g.at'→x≠(k:Int):=λg hg x hx e=>by
  obtain ⟨q,h1,h2⟩:=(h.at' g hg).2.2 x hx;omega
 have up:∀ g,g∈G→g.at'≠[]∧g.at'.length≤k+1∧∀ x,x∈g.at'→∃ q:Nat,x=q∧q<k+1:=λg hg=>by
  obtain ⟨h1,h2,h3⟩:=h.at' g hg
  exact ⟨h1,by omega,λx hx=>by obtain ⟨q,e,hq⟩:=h3 x hx;exact ⟨q,e,by omega⟩⟩
 rcases Ib (V4 p c) G with h1|⟨A,g,B,rfl,h1,h2⟩
 ·rw [Hy h1]
  refine ⟨λg hg=>?_,λg hg=>?_,List.pairwise_append.2 ⟨h.dj,by simp,λa ha b hb=>?_⟩,by have:=h.len;simp;omega⟩
  ·rcases List.mem_append.1 hg with hg|hg
   ·exact h.cv g hg
   ·rw [List.mem_singleton.1 hg];exact hc
  ·rcases List.mem_append.1 hg with hg|hg
   ·exact up g hg
   ·rw [List.mem_singleton.1 hg]
    exact ⟨by simp,by simp,λx hx=>⟨k,by simpa using hx,by omega⟩⟩
  ·rw [List.mem_singleton.1 hb]
   intro x hx hx2
   exact hk a ha x hx (by simpa using hx2)
 ·rw [Km h2 h1]
  obtain ⟨d1,d2,d3⟩:=List.pairwise_append.1 h.dj
  obtain ⟨d4,d5⟩:=List.pairwise_cons.1 d2
  refine ⟨λx hx=>?_,λx hx=>?_,List.pairwise_append.2 ⟨d1,List.pairwise_cons.2 ⟨λb hb x hx hx2=>?_,d5⟩,λa ha b hb x hx hx2=>?_⟩,by have:=h.len;simp at this ⊢;omega⟩
  ·rcases List.mem_append.1 hx with hx|hx
   ·exact h.cv x (by simp [hx])
   ·rcases List.mem_cons.1 hx with rfl|hx
    ·exact h.cv g (by simp)
    ·exact h.cv x (by simp [hx])
  ·rcases List.mem_append.1 hx with hx|hx
   ·exact up x (by simp [hx])
   ·rcases List.mem_cons.1 hx with rfl|hx
    ·obtain ⟨u1,u2,u3⟩:=h.at' g (by simp)
     refine ⟨by simp,by simp only [List.length_append,List.length_singleton];omega,λy hy=>?_⟩
     rcases List.mem_append.1 hy with hy|hy
     ·exact (up g (by simp)).2.2 y hy
     ·exact ⟨k,by simpa using hy,by omega⟩
    ·exact up x (by simp [hx])
  ·rcases List.mem_append.1 hx with hx|hx
   ·exact d4 b hb x hx hx2
   ·exact hk b (by simp [hb]) x hx2 (by simpa using hx)
  ·rcases List.mem_cons.1 hb with rfl|hb
   ·rcases List.mem_append.1 hx2 with hx2|hx2
    ·exact d3 a ha g (by simp) x hx hx2
    ·exact hk a (by simp [ha]) x hx (by simpa using hx2)
   ·exact d3 a ha b (by simp [hb]) x hx hx2
theorem Zj {t:List Vs} {n:Nat} {s:Se} (hs:Bd t n s):∀ (l:List Fi) (k:Nat) (G:List Gr),GrI s k G→GrI s (k+l.length) (Xa s k l G).1
 |[],_,_,h=>h
 |f::r,k,G,h=>by
  rw [Xa]
  split
  ·exact ⟨λg h=>by simp at h,λg h=>by simp at h,List.Pairwise.nil,Nat.zero_le _⟩
  ·rw [List.length_cons,show k+(r.length+1)=k+1+r.length by omega]
   exact Zj hs r (k+1) _ (h.add (covG_I hs f))
theorem sFiles (t:List Vs) (n:Nat) (s:Se) (hs:Bd t n s) (hn:n≤900) (ht:t.length≤1000000) (hz:∀ v,v∈t→Qo v) :
  Aj Tryz.prog 6 [Dv s] [] (.tup [.d (Kz (jp s) (if fy s=0 then s.fi.length else 0)),.d (.int .i64 (fy s))]) [] []:=by
 have hl:=hs.fi.1
 have hml:(s.fi.map Cz).length=s.fi.length:=List.length_map _
 have cg:=tg t n s hs hn ht hz
 have hI:=Zj hs s.fi 0 [] ⟨λg h=>by simp at h,λg h=>by simp at h,List.Pairwise.nil,Nat.zero_le _⟩
 rw [Nat.zero_add] at hI
 have hGl:=hI.len
 rw [fy,jp]
 generalize Xa s 0 s.fi []=G at *
 obtain ⟨G,e⟩:=G
 simp only at cg hI hGl ⊢
 simp only [Dv,D1,Bw,hml,La,slK,Dz,List.cons_append,List.nil_append] at cg
 by_cases h0:e=0
 ·subst h0
  have n0:((0:Int) != 0)=false:=rfl
  rw [show (if (0:Int)≠0 then (0:Int) else (Lf s G vk).2)=(Lf s G vk).2 from if_neg (by simp)]
  obtain ⟨R,hR⟩:∃ R,R=Lf s G vk:=⟨_,rfl⟩
  rw [←hR]
  have hroom:s.fi.length*48≤140737488355328∧s.fi.length≤maxLen:=⟨by omega,by simp only [maxLen];omega⟩
  have hzp:∀ i,Kc (vk i)=[.int .i64 0,.int .i64 0,.int .i64 0,.int .i64 0,.int .i64 0,.bool false]:=λ_=>rfl
  refine qP Tryz.func6 λc hP hfn=>?_;simp only [Dv,D1,Bw,hml,A0,↓A3,seval]
  repeat' first|(refine tz hP cg ?_;try simp only [n0,A0,↓A3,seval])|refine ⟨λh=>?_,λh=>?_⟩|refine aX ?_|fail
  refine B4.loop (X:=Nat×(Nat→Po)) (λx=>⟨[(1,.own 1 0),(6,.osl 1000),(28,.d (La G)),(29,.d (.int .i64 G.length)),(30,.d (.int .i64 (x.1:Nat)))],[(1000,D5 x.2 s.fi.length),(1,.fix (D1 s))],[1000,1]⟩)
   (λx=>x.1≤G.length∧R=Lf s (G.drop x.1) x.2) (λx=>G.length-x.1) (0,vk) ⟨Nat.zero_le _,hR⟩ ((Wk.sw 27 1000 _ hfn (by simp) (by simp)).trans (Wk.of _ hfn rfl (by simp only [La,slK,Dz,List.cons_append,List.nil_append,A7,A0,↓A3,seval]) (by simp only [D5,hzp,D1,Bw,hml,A7,A0,↓A3,seval]))) ?_
  rintro ⟨i,out⟩ ⟨hi,he⟩
  simp only at hi he
  by_cases hlt:i<G.length
  ·obtain ⟨g,hd,hg,hm,-⟩:=Ae hlt
   have hg:=hg default
   have d0:decide ((i:Int)<(G.length:Int))=true:=decide_eq_true (by omega)
   have w1:IntKind.i64.wrap ((i:Int)+1)=((i+1:Nat):Int):=wS (by omega)
   have b1:(0:Int)≤(i:Int)∧(i:Int)<(G.length:Int):=by omega
   obtain ⟨a1,a2,a3⟩:=hI.at' g hm
   rw [hd,Lf] at he
   have hfa:∀ x,x∈g.at'→∃ q f,x=((q:Nat):Int)∧q<s.fi.length∧s.fi[q]?=some f∧Hv s x=f:=λx hx=>by
    obtain ⟨q,e,hq⟩:=a3 x hx
    exact ⟨q,s.fi[q],e,hq,List.getElem?_eq_getElem hq,by rw [Hv,e,Int.toNat_natCast,List.getD_eq_getElem?_getD,List.getElem?_eq_getElem hq];rfl⟩
   simp only [La,slK,D5,Kc,D1,Bw,hml,hg,Dz,List.cons_append,List.nil_append,d0,A0,↓A3,seval]
   repeat' first|refine ⟨λh=>?_,λh=>?_⟩|refine aX ?_|fail
   refine B4.loop (X:=Nat) (λj=>⟨[(1,.own 1 0),(6,.osl 1000),(8,.own 8 0),(9,.osl 1001),(28,.d (La G)),(29,.d (.int .i64 G.length)),(30,.d (.int .i64 (i:Nat))),(35,.d (slK .i64 g.at')),(36,.d (.int .i64 g.at'.length)),(37,.d (.int .i64 (j:Nat)))],
     [(1000,D5 out s.fi.length),(1001,.row 55 7 j (λq=>Cz (Hv s (g.at'.getD q 0)))),(8,.fix ((Dz g).map .d++[.d (slK .i64 g.at')])),(1,.fix (D1 s))],[1000,1001,8,1]⟩)
    (λj=>j≤g.at'.length) (λj=>g.at'.length-j) 0 (Nat.zero_le _) ((Wk.row0 (s:=9) (k:=1001) (e:=55) (sz:=7) (f':=λ_=>[]) rfl rfl (by simp)).trans (Wk.of _ hfn rfl (by simp only [La,slK,Dz,List.cons_append,List.nil_append,A7,A0,↓A3,seval]) (by simp only [D5,Kc,D1,Bw,hml,Dz,slK,List.map,List.cons_append,List.nil_append,A7,A0,↓A3,seval];exact Bf.row rfl (λi hi=>absurd hi (Nat.not_lt_zero i))))) ?_
   intro j hj
   by_cases hjt:j<g.at'.length
   ·obtain ⟨x,-,hgx,hmx,-⟩:=Ae hjt
    have hgx:=hgx 0
    obtain ⟨q,f,rfl,hq,hqf,hff⟩:=hfa x hmx
    have hqg:=Jw Cz hqf
    have d1:decide ((j:Int)<(g.at'.length:Int))=true:=decide_eq_true (by omega)
    have w2:IntKind.i64.wrap ((j:Int)+1)=((j+1:Nat):Int):=wS (by omega)
    have b2:(0:Int)≤(j:Int)∧(j:Int)<(g.at'.length:Int):=by omega
    have b3:(0:Int)≤(q:Int)∧(q:Int)<(s.fi.length:Int):=by omega
    simp only [La,slK,D5,Kc,D1,Bw,hml,Dz,List.map,List.cons_append,List.nil_append,d1,hgx,hqg,Cz,Dr,A0,↓A3,seval]
    repeat' first|refine ⟨λh=>?_,λh=>?_⟩|refine aX ?_|fail
    refine Al.on (j+1) hjt (by omega) ((Wk.sw 48 1001 _ hfn (by simp) (by simp)).trans (Wk.of _ hfn rfl (by simp only [w2,A7,A0,↓A3,seval]) ?_))
    simp only [A7,A0,↓A3,seval]
    refine Bf.row rfl λm hm=>?_
    by_cases h:m<j
    ·rw [if_pos h]
    ·obtain rfl:m=j:=by omega
     rw [if_neg h,hgx,hff,Nat.sub_self]
     simp
   ·obtain rfl:j=g.at'.length:=by omega
    have d1:decide ((g.at'.length:Int)<(g.at'.length:Int))=false:=decide_eq_false (by omega)
    have hsh:ShF (Vp s g):=⟨by rw [Vp,List.length_map];omega,λf hf=>by
     rw [Vp,List.mem_map] at hf
     obtain ⟨x,hx,rfl⟩:=hf
     obtain ⟨q,f,-,-,hqf,hff⟩:=hfa x hx
     rw [hff]
     have:=hs.fi.2 f (List.mem_of_getElem? hqf)
     omega⟩
    have hc:=hI.cv g hm
    have co:=(sOfL g.cv (Vp s g) hsh hc.1 hc.2.1 hc.2.2).arg (args:=[vC g.cv,.d (.sl false 7 g.at'.length (λq=>Cz (Hv s (g.at'.getD q 0))))]) ⟨Ag.refl _,Ag.sl (by rw [Vp,List.length_map]) (λ_=>rfl) id (λq hq=>by
     rw [Vp,List.getD_eq_getElem?_getD,List.getD_eq_getElem?_getD,List.getElem?_map,List.getElem?_eq_getElem hq];rfl),trivial⟩
    simp only [vC,cC,wg,nL,Cz,Dr] at co
    by_cases he0:Cb g.cv (Vp s g)=0
    ·rw [if_neg (by simpa using he0)] at he
     rw [if_pos he0,he0,show (Vp s g).length=g.at'.length from List.length_map _] at co
     generalize Ts g.cv (Vp s g)=S at *
     simp only [Kz] at co
     simp only [D5,Kc,La,slK,D1,Bw,hml,Dz,List.map,List.cons_append,List.nil_append,d1,Cz,Dr,A0,↓A3,seval]
     repeat' first|refine ⟨λh=>?_,λh=>?_⟩|refine aX ?_|fail
     refine TR.wk _ (Wk.pub 1001 rfl) ?_
     simp only [A0,↓A3,seval]
     repeat' first|(refine tz hP co ?_;try simp only [n0,A0,↓A3,seval])|refine ⟨λh=>?_,λh=>?_⟩|refine aX ?_|fail
     refine B4.loop (X:=Nat) (λj=>⟨[(1,.own 1 0),(6,.osl 1000),(12,.d (Kz S g.at'.length)),(28,.d (La G)),(29,.d (.int .i64 G.length)),(30,.d (.int .i64 (i:Nat))),(61,.d (slK .i64 g.at')),(62,.d (.int .i64 g.at'.length)),(63,.d (.int .i64 (j:Nat)))],
       [(1000,D5 (N9 S (g.at'.take j) 0 out) s.fi.length),(1,.fix (D1 s))],[1000,1]⟩)
      (λj=>j≤g.at'.length) (λj=>g.at'.length-j) 0 (Nat.zero_le _) (Wk.of _ hfn rfl (by simp only [Kz,La,slK,Dz,List.cons_append,List.nil_append,A7,A0,↓A3,seval]) (by simp only [D5,Kc,List.take_zero,N9,D1,Bw,hml,A7,A0,↓A3,seval])) ?_
     intro j hj
     by_cases hjt:j<g.at'.length
     ·obtain ⟨x,-,hgx,hmx,hxat⟩:=Ae hjt
      have hgx:=hgx 0
      obtain ⟨q,f,rfl,hq,hqf,hff⟩:=hfa x hmx
      have d2:decide ((j:Int)<(g.at'.length:Int))=true:=decide_eq_true (by omega)
      have w2:IntKind.i64.wrap ((j:Int)+1)=((j+1:Nat):Int):=wS (by omega)
      have b2:(0:Int)≤(j:Int)∧(j:Int)<(g.at'.length:Int):=by omega
      have b3:(0:Int)≤(q:Int)∧(q:Int)<(s.fi.length:Int):=by omega
      have ht:g.at'.take (j+1)=g.at'.take j++[(q:Int)]:=by rw [List.take_add_one,hxat];rfl
      have hp:=Sa S (q:Int) (g.at'.take j) 0 out
      rw [←ht,List.length_take,Nat.min_eq_left hj,Nat.zero_add,Int.toNat_natCast] at hp
      obtain ⟨P,hP'⟩:∃ P,P=N9 S (g.at'.take j) 0 out:=⟨_,rfl⟩
      rw [←hP'] at hp
      simp only [←hP',D5,Kc,Kz,La,slK,D1,Bw,hml,Dz,List.cons_append,List.nil_append,d2,hgx,A0,↓A3,seval]
      repeat' first|refine ⟨λh=>?_,λh=>?_⟩|refine aX ?_|fail
      refine Al.on (j+1) hjt (by omega) (Wk.of _ hfn rfl (by simp only [w2,A7,A0,↓A3,seval]) ?_)
      simp only [hp,A7,A0,↓A3,seval]
      refine Bf.row rfl λm hm=>?_
      by_cases h:m=q
      ·rw [if_pos h,if_pos h];rfl
      ·rw [if_neg h,if_neg h]
     ·obtain rfl:j=g.at'.length:=by omega
      have d2:decide ((g.at'.length:Int)<(g.at'.length:Int))=false:=decide_eq_false (by omega)
      rw [List.take_length]
      simp only [D5,Kc,Kz,La,slK,D1,Bw,hml,Dz,List.cons_append,List.nil_append,d2,A0,↓A3,seval]
      repeat' first|refine ⟨λh=>?_,λh=>?_⟩|refine aX ?_|fail
      exact Al.on (i+1,N9 S g.at' 0 out) ⟨hlt,he⟩ (by simp only;omega) (Wk.of _ hfn rfl (by simp only [w1,A7,A0,↓A3,seval]) (by simp only [A7,A0,↓A3,seval]))
    ·have n1:(Cb g.cv (Vp s g) != 0)=true:=by rw [bne_iff_ne];exact he0
     rw [if_pos he0] at he
     rw [he,if_neg he0]
     generalize Cb g.cv (Vp s g)=e at *
     simp only [D5,Kc,La,slK,D1,Bw,hml,Dz,List.map,List.cons_append,List.nil_append,d1,Cz,Dr,A0,↓A3,seval]
     repeat' first|refine ⟨λh=>?_,λh=>?_⟩|refine aX ?_|fail
     refine TR.wk _ (Wk.pub 1001 rfl) ?_
     simp only [A0,↓A3,seval]
     repeat' first|(refine tz hP co ?_;try simp only [n1,A0,↓A3,seval])|refine ⟨λh=>?_,λh=>?_⟩|refine aX ?_|fail
     refine Ci.pure (by simp only [B8,A0,↓A3,seval]) ?_
     simp only [B8,A0,↓A3,seval]
     exact Ag.tups ⟨C2,Ag.refl _,trivial⟩
  ·obtain rfl:i=G.length:=by omega
   have d0:decide ((G.length:Int)<(G.length:Int))=false:=decide_eq_false (by omega)
   rw [List.drop_length,Lf] at he
   rw [he]
   simp only [La,D5,Kc,d0,A0,↓A3,seval]
   repeat' first|refine ⟨λh=>?_,λh=>?_⟩|refine aX ?_|fail
   refine rK (Wk.pub 1000 rfl) trivial ?_
   simp only [B8,A0,↓A3,seval]
   exact Ag.refl _
 ·have n0:(e != 0)=true:=by rw [bne_iff_ne];exact h0
  rw [show (if e≠0 then e else (Lf s G vk).2)=e from if_pos h0,if_neg h0]
  refine qP Tryz.func6 λc hP hfn=>?_;simp only [Dv,D1,Bw,hml,A0,↓A3,seval]
  repeat' first|(refine tz hP cg ?_;try simp only [n0,A0,↓A3,seval])|refine ⟨λh=>?_,λh=>?_⟩|refine aX ?_|fail
  refine Ci.pure (by simp only [B8,A0,↓A3,seval]) ?_
  simp only [B8,A0,↓A3,seval]
  exact Ag.tups ⟨C2,Ag.refl _,trivial⟩
end Go.Proofs.YtakohhkgeeoniaaGreat
end
section
namespace Go.Proofs.YtakohhkgeeoniaaGreat
open Go.Bx
def rj (k:Cv) (loss:Int):Nat:=Yb (max 0 (min (loss-k.de) k.li)).toNat k.sh.toNat
theorem Us {k:Cv} (hr:E2 k=true) (hf:Ri k) {loss:Int} (h1:0≤loss) (h2:loss≤9223372036854775807):Bj k loss 0=max 0 (min (rj k loss:Int) k.ag):=by
 obtain ⟨a,b,c,d,e⟩:=hf
 have e1:Iu k loss=((max 0 (min (loss-k.de) k.li)).toNat:Int):=by
  simp only [Iu,Iv,List.foldl_cons,List.foldl_nil]
  rw [wI (by omega)];omega
 have e2:k.sh=(k.sh.toNat:Int):=by omega
 rw [Bj,if_neg (by rw [hr];simp;omega),e1,e2,bp_he (by omega) (by omega)]
 simp only [Iv,List.foldl_cons,List.foldl_nil,rj,Int.sub_zero]
 rw [wI (by omega)];omega
theorem T9 {k:Cv} (hr:E2 k=true) (hf:Ri k) {x y:Int} (h1:0≤x) (h:x≤y) (h2:y≤9223372036854775807):Bj k x 0≤Bj k y 0∧0≤Bj k x 0∧Bj k y 0≤1000000000000000:=by
 rw [Us hr hf h1 (by omega),Us hr hf (by omega) h2]
 have hag:=hf.ag
 have:=su (x:=(max 0 (min (x-k.de) k.li)).toNat) (y:=(max 0 (min (y-k.de) k.li)).toNat) (b:=k.sh.toNat) (by omega)
 unfold rj;omega
theorem pays_0 {k:Cv} (hr:E2 k=true) (hf:Ri k):Bj k 0 0=0:=by
 rw [Us hr hf (Int.le_refl _) (by decide)]
 have hd:=hf.de
 have h1:=yf (x:=(max 0 (min (0-k.de) k.li)).toNat) (b:=k.sh.toNat) (by have:=hf.sh;omega)
 unfold rj;omega
structure One (c:Cv) (x:PS):Prop where
 al:x.al=x.pd 0
 pd:x.pd 0=Bj c (x.sh 0) 0
 sh:0≤x.sh 0∧x.sh 0≤1000000000000000
theorem pu {c:Cv} (hr:E2 c=true) (hf:Ri c) {n:Nat} {x:PS} {s:Az} (h:One c x) (hs:jb c n x s) (h0:s.fi=0):One c (E9 (Bj c) x s):=by
 obtain ⟨h1,h2,h3⟩:=h
 have ha:=hs.am
 have hb:=hs.sh
 rw [h0] at hb
 unfold E9
 split
 ·exact ⟨h1,h2,h3⟩
 ·rename_i hk
  have hk2:s.ac.kd=2:=Decidable.of_not_not hk
  have hb2:=hb.2 hk2
  have hm:=T9 hr hf h3.1 (show x.sh 0≤x.sh 0+s.ac.am by omega) (by omega)
  rw [h0,h1,Int.sub_self]
  split
  ·exact ⟨rfl,by simp only [F4,if_true];omega,by simp only [F4,if_true];omega⟩
  ·exact ⟨by simp [F4],by simp only [F4,if_true];omega,by simp only [F4,if_true];omega⟩
theorem Zp {c:Cv} {f:Fi} (R:H9 c [f]) (hf:Ri c):∀ k,k≤(G5 (B6 0 [f])).length→One c (Fd (Bj c) ((G5 (B6 0 [f])).take k))
 |0,_=>⟨rfl,(pays_0 R.cv hf).symm,by simp [Fd,qj]⟩
 |k+1,hk=>by
  obtain ⟨s,-,-,hm,hat⟩:=Ae (l:=G5 (B6 0 [f])) (k:=k) (by omega)
  have ht:(G5 (B6 0 [f])).take (k+1)=(G5 (B6 0 [f])).take k++[s]:=by rw [List.take_add_one,hat];rfl
  have hs:=aq R hf hat
  rw [ht,Fd,List.foldl_append]
  exact pu R.cv hf (Zp R hf k (by omega)) hs (by have:=hs.fi;simp at this;exact this)
theorem Zq:∀ {l:List Ac},(∀ a,a∈l→Fz a=true)→∀ q:Qp,0≤q.gr∧q.gr≤1000000000000000→0≤(l.foldl G7 q).gr∧(l.foldl G7 q).gr≤1000000000000000
 |[],_,_,h=>h
 |a::l,hl,q,h=>by
  rw [List.foldl_cons]
  refine Zq (λb hb=>hl b (by simp [hb])) _ ?_
  have:=Kl (hl a (by simp))
  unfold G7
  repeat' split
  all_goals first|exact h|exact this
theorem one_ok {c:Cv} {f:Fi} (h:Cb c [f]=0) (hI:Rc c):(Ts c [f] 0).pd=Bj c (dv (Bm f.ac)).sh 0∧((Ts c [f] 0).op=true→IntKind.i64.wrap ((Ts c [f] 0).pd+(Ts c [f] 0).rs)=Bj c (dv (Bm f.ac)).gr 0)∧((Ts c [f] 0).op=false→(Ts c [f] 0).rs=0)∧(Ts c [f] 0).op=(dv (Bm f.ac)).op:=by
 have R:=P8 h
 have hf:=R.fine hI.1 hI.2.1
 have hm:=R.made (f:=f) (by simp)
 obtain ⟨S,hS⟩:∃ S,S=G5 (B6 0 [f]):=⟨_,rfl⟩
 have h1:=Zp R hf S.length (by rw [hS];exact Nat.le_refl _)
 have h2:=Ue (by have:=hf.ag;have:=hf.de;have:=hf.li;omega) hf.ag (Oq hf) S S.length (Nat.le_refl _)
 rw [←hS] at h1
 rw [List.take_length] at h1 h2
 have hX:Fd (Bj c) S=Ce c [f]:=by rw [hS];rfl
 rw [hX] at h1 h2
 have hsh:(Ce c [f]).sh 0=(Bm f.ac).sh:=by
  rw [h2.sh 0,hm.eq,hS]
  have:=X6 (((Fb (B6 0 [f])).filter (Xd 0)).map (·.ac.am))
  refine Eq.trans this ?_
  simp only [B6,List.append_nil]
  rw [List.filter_map,List.map_map]
  have e:((Xd 0) ∘ λa=>(⟨0,a⟩:Az))=λa=>decide (a.kd=2):=by funext a;simp [Xd]
  rw [e];rfl
 have hpd:On (Ce c [f]).rows (Ce c [f]).rows.length 0=Bj c (Bm f.ac).sh 0:=by
  rw [On,List.take_length,←h2.row 0,h1.pd,hsh]
 have hus:T8 (Ce c [f]).rows (Ce c [f]).rows.length=Bj c (Bm f.ac).sh 0:=by
  rw [T8,List.take_length,←h2.sum,h1.al,h1.pd,hsh]
 have hb:=hm.sh
 have hg:=Zq hm.rt ⟨0,0,0,true⟩ (by simp)
 have hgr:0≤(Bm f.ac).gr∧(Bm f.ac).gr≤1000000000000000:=hg
 have hmn:=T9 R.cv hf hb.1 (show (Bm f.ac).sh≤max (Bm f.ac).gr (Bm f.ac).sh by omega) (by omega)
 have hop:(O2 c [f] 0).op=(Bm f.ac).op:=rfl
 have hpd2:(O2 c [f] 0).pd=Bj c (Bm f.ac).sh 0:=hpd
 have hg2:(O2 c [f] 0).gr=max (Bm f.ac).gr (Bm f.ac).sh:=rfl
 obtain ⟨H,hH⟩:∃ H,H=(Fu c (O2 c [f]) (T8 (Ce c [f]).rows (Ce c [f]).rows.length) 1).2 0:=⟨_,rfl⟩
 have hrs:(Ts c [f] 0).rs=H:=hH.symm
 rw [hus,Fu] at hH
 refine ⟨hpd,λho=>?_,λho=>?_,rfl⟩
 ·have ho:(O2 c [f] 0).op=true:=ho
  rw [if_neg (by rw [ho];simp)] at hH
  simp only [F4,if_true,Nz,Fu,hpd2,hg2,Int.sub_self] at hH
  rw [show IntKind.i64.wrap 0=0 from rfl,wI (by omega)] at hH
  rw [hrs,show (Ts c [f] 0).pd=Bj c (Bm f.ac).sh 0 from hpd]
  show IntKind.i64.wrap _=Bj c (max (Bm f.ac).gr (Bm f.ac).sh) 0
  rw [wI (by omega)];omega
 ·have ho:(O2 c [f] 0).op=false:=ho
  rw [if_pos ho] at hH
  rw [hrs,hH];rfl
theorem ax {S:Nat→Po} {m:Nat}:∀ {l:List Int} {i:Nat} {out:Nat→Po},(∀ x,x∈l→x.toNat≠m)→N9 S l i out m=out m
 |[],_,_,_=>rfl
 |k::r,i,out,h=>by
  rw [N9,ax λx hx=>h x (by simp [hx])]
  exact if_neg (Ne.symm (h k (by simp)))
theorem Z0 {s:Se} {m:Nat}:∀ {G:List Gr} {out:Nat→Po},(∀ g,g∈G→∀ x,x∈g.at'→x.toNat≠m)→(Lf s G out).1 m=out m
 |[],_,_=>rfl
 |g::r,out,h=>by
  rw [Lf]
  split
  ·rfl
  ·rw [Z0 λx hx=>h x (by simp [hx])]
   exact ax (h g (by simp))
theorem kg {s:Se} {g:Gr} {k:Nat} (hk:g.at'=[(k:Int)]):∀ {G:List Gr} {out:Nat→Po},(∀ g,g∈G→∀ x,x∈g.at'→0≤x)→(G.Pairwise λa b=>∀ x,x∈a.at'→x∉b.at')→(Lf s G out).2=0→g∈G→(Lf s G out).1 k=Ts g.cv (Vp s g) 0∧Cb g.cv (Vp s g)=0
 |[],_,_,_,_,h=>by simp at h
 |a::r,out,hn,hd,he,hg=>by
  obtain ⟨d1,d2⟩:=List.pairwise_cons.1 hd
  rw [Lf] at he ⊢
  split at he
  ·rename_i h;exact absurd he h
  ·rename_i h
   rw [if_neg h]
   rcases List.mem_cons.1 hg with rfl|hg
   ·refine ⟨?_,Decidable.of_not_not h⟩
    rw [Z0 λx hx y hy e=>?_]
    ·rw [hk];simp [N9]
    ·have h1:=d1 x hx (k:Int) (by rw [hk];simp)
     have h2:=hn x (by simp [hx]) y hy
     exact h1 (by rw [show (k:Int)=y by omega];exact hy)
   ·exact kg hk (λx hx=>hn x (by simp [hx])) d2 he hg
theorem pp {t:List Vs} {n:Nat} {s:Se} (hs:Bd t n s) (h0:fy s=0) (hc:(Yk s 0 s.fi []).2=true) {g:Gr} (hg:g∈(Yk s 0 s.fi []).1) {x:Int} (hx:g.at'=[x]) :
  ∃ k:Nat,x=k∧k<s.fi.length∧∃ f,s.fi[k]?=some f∧Hv s x=f∧jp s k=Ts g.cv [f] 0∧Cb g.cv [f]=0∧Rc g.cv:=by
 have e:=Ur hc
 have hI:=Zj hs s.fi 0 [] ⟨λg h=>by simp at h,λg h=>by simp at h,List.Pairwise.nil,Nat.zero_le _⟩
 rw [Nat.zero_add] at hI
 rw [fy] at h0
 rw [jp]
 rw [e] at h0 hI ⊢
 rw [if_neg (by simp)] at h0
 obtain ⟨k,rfl,hk⟩:=(hI.at' g hg).2.2 x (by rw [hx];simp)
 have hff:Hv s (k:Int)=s.fi[k]:=by rw [Hv,Int.toNat_natCast,List.getD_eq_getElem?_getD,List.getElem?_eq_getElem hk];rfl
 have h1:=kg hx (out:=vk) (λa ha y hy=>by obtain ⟨q,rfl,-⟩:=(hI.at' a ha).2.2 y hy;omega) hI.dj h0 hg
 rw [Vp,hx,List.map_singleton,hff] at h1
 exact ⟨k,rfl,hk,_,List.getElem?_eq_getElem hk,hff,h1.1,h1.2,hI.cv g hg⟩
end Go.Proofs.YtakohhkgeeoniaaGreat
end
section
namespace Go.Proofs.YtakohhkgeeoniaaGreat
open Go.Bx
set_option maxRecDepth 10000
theorem lWorth (ca:Aj Tryz.prog 5 [] [] (.d (.bool true)) [] []) (t:List Vs) (l:List Fc) (on:Int) (h:JoOk t l):Aj Tryz.prog 3 [.ag [.d (C5 t),.d (Dy l)],.d (.int .i64 on)] [] (.d (.bool true)) [] []:=by
 obtain ⟨s,b,cs,hb⟩:=no t l on h
 cases b with
 |false =>
  simp only [Dy,Dv,D1] at cs
  refine qP Tryz.func3 λc hP hfn=>?_;simp only [Dy,Dv,D1,A0,↓A3,seval]
  repeat' first|(refine tq hP (h:=⟨_,λ_=>by first|exact cs|exact ca,?_⟩);try simp only [A0,↓A3,seval])|refine ⟨λh=>?_,λh=>?_⟩|refine aX ?_|fail
  exact rr
 |true =>
 obtain ⟨hs,ht,hz⟩:=hb rfl
 have cf:=sFiles t 25 s hs (by omega) ht hz
 have cg:=gh t 25 s hs (by omega) ht hz
 have hml:(s.fi.map Cz).length=s.fi.length:=List.length_map _
 have hfl:=hs.fi.1
 have hok:=λh0 hc g hg x hx=>pp hs (s:=s) h0 hc (g:=g) hg (x:=x) hx
 have hGI:(Yk s 0 s.fi []).2=true→GrI s s.fi.length (Yk s 0 s.fi []).1:=λhc=>by
  have hI:=Zj hs s.fi 0 [] ⟨λg h=>by simp at h,λg h=>by simp at h,List.Pairwise.nil,Nat.zero_le _⟩
  rw [Ur hc,Nat.zero_add] at hI
  exact hI
 generalize Yk s 0 s.fi []=G at *
 obtain ⟨G,b⟩:=G
 generalize fy s=e at *
 generalize jp s=O at *
 simp only at cg hok hGI
 simp only [Dy,Dv,D1,Bw,hml] at cs
 simp only [Dv,D1,Bw,hml,Vo,slK,Kz,Kc,Dz,Cz,Dr,List.cons_append,List.nil_append] at cf cg
 by_cases h0:e=0∧b=true
 ·obtain ⟨rfl,rfl⟩:=h0
  have hI:=hGI rfl
  have hGl:=hI.len
  have n0:((0:Int) != 0)=false:=rfl
  have n1:((s.fi.length:Int) != (s.fi.length:Int))=false:=by simp
  rw [if_pos rfl] at cf
  refine qP Tryz.func3 λc hP hfn=>?_;simp only [Dy,Dv,D1,Bw,hml,A0,↓A3,seval]
  repeat' first|(refine tq hP (h:=⟨_,λ_=>by first|exact cs|exact cf|exact cg,?_⟩);try simp only [n0,n1,hml,A0,↓A3,seval])|refine ⟨λh=>?_,λh=>?_⟩|refine aX ?_|fail
  refine B4.loop (X:=Nat) (λi=>⟨[(7,.d (Kz O s.fi.length)),(57,.d (Vo s G)),(58,.d (.int .i64 G.length)),(59,.d (.int .i64 (i:Nat)))],[],[]⟩) (λi=>i≤G.length) (λi=>G.length-i) 0 (Nat.zero_le _) (Wk.of _ hfn rfl (by simp only [Kz,Kc,Vo,slK,Dz,Cz,Dr,List.cons_append,List.nil_append,A7,A0,↓A3,seval]) (by simp only [A7,A0,↓A3,seval])) ?_
  intro i hi
  by_cases hlt:i<G.length
  ·obtain ⟨g,-,hg,hm,-⟩:=Ae hlt
   have hg:=hg default
   have d0:decide ((i:Int)<(G.length:Int))=true:=decide_eq_true (by omega)
   have w1:IntKind.i64.wrap ((i:Int)+1)=((i+1:Nat):Int):=wS (by omega)
   have b1:(0:Int)≤(i:Int)∧(i:Int)<(G.length:Int):=by omega
   obtain ⟨u1,u2,-⟩:=hI.at' g hm
   by_cases hl1:1<g.at'.length
   ·have d1:decide ((g.at'.length:Int)>1)=true:=decide_eq_true (by omega)
    simp only [Kz,Kc,Vo,slK,Jd,hg,Dz,Cz,Dr,List.cons_append,List.nil_append,d0,d1,A0,↓A3,seval]
    repeat' first|refine ⟨λh=>?_,λh=>?_⟩|refine aX ?_|fail
    exact Al.on (i+1) hlt (by omega) (Wk.of _ hfn rfl (by simp only [w1,A7,A0,↓A3,seval]) (by simp only [A7,A0,↓A3,seval]))
   ·have d1:decide ((g.at'.length:Int)>1)=false:=decide_eq_false (by omega)
    obtain ⟨x,hx⟩:∃ x,g.at'=[x]:=by
     match h:g.at',u1,hl1 with
     |[x],_,_=>exact ⟨x,rfl⟩
     |_::_::_,_,h2=>simp at h2
    have hxl:g.at'.length=1:=by rw [hx];rfl
    obtain ⟨k,rfl,hk,f,hkf,hff,hO,hck,hCv⟩:=hok rfl rfl g hm x hx
    have hx0:g.at'.getD 0 0=(k:Int):=by rw [hx];rfl
    have hone:=one_ok hck hCv
    rw [←hO] at hone
    have cst:=ar f (by have:=hs.fi.2 f (List.mem_of_getElem? hkf);omega)
    obtain ⟨h1,h2,h3,h4⟩:=hone
    generalize dv (Bm f.ac)=q at *
    have cp:=λa:Int=>pj g.cv a 0 hCv.1.2 hCv.2.2.2
    obtain ⟨P,hP2⟩:∃ P,P=O k:=⟨_,rfl⟩
    rw [←hP2] at h1 h2 h3 h4
    have b2:(0:Int)≤(k:Int)∧(k:Int)<(s.fi.length:Int):=by omega
    have c1:(P.pd != Bj g.cv q.sh 0)=false:=by rw [h1];simp
    simp only [Jc,Gk,vQ,cQ,Dr,←h4] at cst
    simp only [vC,cC] at cp
    cases hop:P.op with
    |true =>
     rw [hop] at cst
     have c2:(IntKind.i64.wrap (P.pd+P.rs) != Bj g.cv q.gr 0)=false:=by rw [h2 hop];simp
     have c4:(true != true)=false:=rfl
     simp only [Kz,Kc,Vo,slK,Jd,hg,Dz,Cz,Dr,List.cons_append,List.nil_append,d0,d1,hxl,hx0,hff,←hP2,hop,A0,↓A3,seval]
     repeat' first|(refine tq hP (h:=⟨_,λ_=>by first|exact cst|exact cp _,?_⟩);try simp only [d0,d1,hg,Jd,hxl,hx0,hff,←hP2,hop,c1,c2,c4,A0,↓A3,seval])|refine ⟨λh=>?_,λh=>?_⟩|refine aX ?_|fail
     exact Al.on (i+1) hlt (by omega) (Wk.of _ hfn rfl (by simp only [w1,A7,A0,↓A3,seval]) (by simp only [A7,A0,↓A3,seval]))
    |false =>
     rw [hop] at cst
     have c3:(P.rs != 0)=false:=by rw [h3 hop];rfl
     have c4:(false != false)=false:=rfl
     simp only [Kz,Kc,Vo,slK,Jd,hg,Dz,Cz,Dr,List.cons_append,List.nil_append,d0,d1,hxl,hx0,hff,←hP2,hop,A0,↓A3,seval]
     repeat' first|(refine tq hP (h:=⟨_,λ_=>by first|exact cst|exact cp _,?_⟩);try simp only [d0,d1,hg,Jd,hxl,hx0,hff,←hP2,hop,c1,c3,c4,A0,↓A3,seval])|refine ⟨λh=>?_,λh=>?_⟩|refine aX ?_|fail
     exact Al.on (i+1) hlt (by omega) (Wk.of _ hfn rfl (by simp only [w1,A7,A0,↓A3,seval]) (by simp only [A7,A0,↓A3,seval]))
  ·obtain rfl:i=G.length:=by omega
   have d0:decide ((G.length:Int)<(G.length:Int))=false:=decide_eq_false (by omega)
   simp only [Vo,d0,A0,↓A3,seval]
   repeat' first|(refine tz hP ca ?_;try simp only [d0,A0,↓A3,seval])|refine ⟨λh=>?_,λh=>?_⟩|refine aX ?_|fail
   exact rr
 ·have n0:((e != 0) || !b)=true:=by
   cases b with
   |false=>simp
   |true=>simp at h0 ⊢;exact h0
  refine qP Tryz.func3 λc hP hfn=>?_;simp only [Dy,Dv,D1,Bw,hml,A0,↓A3,seval]
  repeat' first|(refine tq hP (h:=⟨_,λ_=>by first|exact cs|exact cf|exact cg|exact ca,?_⟩);try simp only [n0,hml,Bool.true_or,A0,↓A3,seval])|refine ⟨λh=>?_,λh=>?_⟩|refine aX ?_|fail
  all_goals exact rr
theorem w_0:IntKind.i64.wrap 0=0:=rfl
theorem Va:IntKind.i64.wrap 1=1:=rfl
theorem w_m:IntKind.i64.wrap (-1)=-1:=rfl
theorem b_0:((0:Int) == 0)=true:=rfl
def rP (n:Nat):Go.Bx.Own:=.row 179 3 n (λ_=>[.int .i64 1,.int .i64 0,.int .i64 0])
def Zm:V:=.ifc 179 (.ag [.d (.int .i64 1),.d (.int .i64 0),.d (.int .i64 0)])
def X9:V:=.ifc 175 (.own 1 0)
theorem vt (n:Nat):Aj Tryz.prog 72 [.osl 2] [(2,rP n)] (.d (.int .i64 n)) [(2,rP n)] []:=by
 refine qO Tryz.func72 ?_
 intro c hP hfn
 simp only [A5,V.names,A4,rP,A0,↓A3,seval]
 exact rK (Wk.refl _ _) (by simp only [A7,A0,↓A3,seval])
theorem tSwap:Aj Tryz.prog 207 [.osl 2,.d (.int .i64 0),.d (.int .i64 0)] [(2,rP 1)] (.tup []) [(2,rP 1)] []:=by
 refine qO Tryz.func207 ?_
 intro c hP hfn
 simp only [A5,V.names,A4,rP,A0,↓A3,seval]
 repeat' first|refine ⟨λh=>?_,λh=>?_⟩|refine aX ?_|fail
 refine Et (Wk.refl _ _) ?_
 simp only [A7,A0,↓A3,seval]
 exact Bf.row rfl λm hm=>by
  obtain rfl:m=0:=by omega
  rfl
theorem yc:Aj Tryz.prog 206 [.own 1 0,Zm] [(1,.fix [.osl 2]),(2,rP 0)] (.tup []) [(1,.fix [.osl 3]),(3,rP 1)] [3]:=by
 refine qO Tryz.func206 ?_
 intro c hP hfn
 simp only [Zm,A5,V.names,A4,rP,A0,↓A3,seval]
 repeat' first|refine ⟨λh=>?_,λh=>?_⟩|refine aX ?_|fail
 refine Et (Wk.sw 11 3 _ hfn (by simp [A5,V.names,A4,Zm,rP]) (by simp [A5,V.names,A4,Zm,rP])) ?_
 simp only [A7,A0,↓A3,seval]
 exact Bf.row rfl λm hm=>by
  obtain rfl:m=0:=by omega
  rfl
theorem tPop:Aj Tryz.prog 205 [.own 1 0] [(1,.fix [.osl 2]),(2,rP 1)] Zm [(1,.fix [.osl 3]),(3,rP 0)] [3]:=by
 refine qO Tryz.func205 ?_
 intro c hP hfn
 simp only [Zm,A5,V.names,A4,rP,Int.natCast_one,Int.natCast_zero,w_0,A0,↓A3,seval]
 repeat' first|refine ⟨λh=>?_,λh=>?_⟩|refine aX ?_|fail
 refine rK (Wk.shr 2 3 0 rfl (by omega) (by simp [A5,V.names,A4,Zm,rP])) ?_
 simp only [A7,A0,↓A3,seval]
theorem wz:Ss Tryz.prog 175 "Len"=some (72,false):=by kernel_rfl
theorem tMSwap:Ss Tryz.prog 175 "Swap"=some (207,false):=by kernel_rfl
theorem tMPush:Ss Tryz.prog 175 "Push"=some (206,true):=by kernel_rfl
theorem tMPop:Ss Tryz.prog 175 "Pop"=some (205,true):=by kernel_rfl
theorem jq:Tryz.prog.underlying 175=some (.pointer 177):=by kernel_rfl
theorem tZPl:Hm Tryz.prog 177=some 1:=by kernel_rfl
theorem tAPl:Hl Tryz.prog 177=some false:=by kernel_rfl
theorem tUp:Aj Tryz.prog 96 [X9,.d (.int .i64 0)] [(1,.fix [.osl 3]),(3,rP 1)] (.tup []) [(1,.fix [.osl 3]),(3,rP 1)] []:=by
 refine qO Tryz.func96 ?_
 intro c hP hfn
 simp only [X9,rP,A5,V.names,A4,A0,↓A3,seval]
 refine B4.loop (X:=Unit) (λ_=>⟨[(0,X9),(1,.d (.int .i64 0))],[(1,.fix [.osl 3]),(3,rP 1)],[1,3]⟩) (λ_=>True) (λ_=>0) () trivial (Wk.of _ hfn rfl (by simp only [X9,A7,A0,↓A3,seval]) (by simp only [rP,A7,A0,↓A3,seval])) ?_
 rintro ⟨⟩ -
 have e3:¬((2:Int)=0):=by decide
 simp only [X9,rP,w_0,w_m,b_0,Int.reduceTDiv,e3,A0,↓A3,seval]
 refine TR.gkeep (gc:=false) [] (.d (.bool false)) rfl (λh=>by cases h) ?_
 simp only [A0,↓A3,seval]
 refine Et (Wk.refl _ _) ?_
 simp only [rP,A7,A0,↓A3,seval]
theorem tDown:Aj Tryz.prog 97 [X9,.d (.int .i64 0),.d (.int .i64 0)] [(1,.fix [.osl 2]),(2,rP 1)] .un [(1,.fix [.osl 2]),(2,rP 1)] []:=by
 refine qO Tryz.func97 ?_
 intro c hP hfn
 simp only [X9,rP,A5,V.names,A4,A0,↓A3,seval]
 refine B4.loop (X:=Unit) (λ_=>⟨[(0,X9),(1,.d (.int .i64 0)),(2,.d (.int .i64 0)),(7,.d (.int .i64 0))],[(1,.fix [.osl 2]),(2,rP 1)],[1,2]⟩) (λ_=>True) (λ_=>0) () trivial (Wk.of _ hfn rfl (by simp only [X9,A7,A0,↓A3,seval]) (by simp only [rP,A7,A0,↓A3,seval])) ?_
 rintro ⟨⟩ -
 simp only [X9,rP,w_0,Va,A0,↓A3,seval]
 refine rK (Wk.refl _ _) ?_ (h2:=Ag.un _)
 simp only [rP,A7,A0,↓A3,seval]
theorem tHPush:Aj Tryz.prog 71 [X9,Zm] [(1,.fix [.osl 2]),(2,rP 0)] (.tup []) [(1,.fix [.osl 3]),(3,rP 1)] [3]:=by
 refine qO Tryz.func71 ?_
 intro c hP hfn
 have cL:=(vt 1).sw 2 3
 have cp:=yc
 have cu:=tUp
 simp only [rP,Zm,X9,A0,↓A3,seval] at cL cp cu
 simp only [X9,Zm,rP,A5,V.names,A4,A0,↓A3,seval]
 refine TR.iv hP [(1,.fix [.osl 2]),(2,rP 0)] [(1,.fix [.osl 3]),(3,rP 1)] _ [3] rfl tMPush jq yc trivial (by repeat' first|exact trivial|(intro _;assumption)|apply And.intro) (th rfl rfl) (by simp [keysO]) (by simp [rP,A4]) ?_
 simp only [rP,A0,↓A3,seval]
 refine TR.keep [1,3] (.d (.int .i64 1)) (Pg hP rfl wz jq tZPl tAPl (λ_=>rfl) rfl (by decide) cL trivial (by repeat' first|exact trivial|(intro _;assumption)|apply And.intro) rfl) ?_
 simp only [w_0,A0,↓A3,seval]
 refine tC [(1,.fix [.osl 3]),(3,rP 1)] [(1,.fix [.osl 3]),(3,rP 1)] hP tUp (th rfl rfl) ?_
 simp only [rP,A0,↓A3,seval]
 refine Et (Wk.refl _ _) ?_
 simp only [A7,A0,↓A3,seval]
theorem tHPop:Aj Tryz.prog 73 [X9] [(1,.fix [.osl 2]),(2,rP 1)] Zm [(1,.fix [.osl 3]),(3,rP 0)] [3]:=by
 refine qO Tryz.func73 ?_
 intro c hP hfn
 have cL:=vt 1
 simp only [rP,A0,↓A3,seval] at cL
 simp only [X9,Zm,rP,A5,V.names,A4,A0,↓A3,seval]
 refine TR.keep [1,2] (.d (.int .i64 1)) (Pg hP rfl wz jq tZPl tAPl (λ_=>rfl) rfl (by decide) cL trivial (by repeat' first|exact trivial|(intro _;assumption)|apply And.intro) rfl) ?_
 simp only [w_0,A0,↓A3,seval]
 refine TR.ivl hP [(2,rP 1)] [(2,rP 1)] _ [] rfl tMSwap jq tZPl tAPl (λ_=>rfl) rfl (by decide) tSwap trivial (by repeat' first|exact trivial|(intro _;assumption)|apply And.intro) (B7 rfl) (by simp [keysO]) (by simp) ?_
 simp only [rP,A0,↓A3,seval]
 refine tC [(1,.fix [.osl 2]),(2,rP 1)] [(1,.fix [.osl 2]),(2,rP 1)] hP tDown (th rfl rfl) ?_
 simp only [rP,A0,↓A3,seval]
 refine TR.iv hP [(1,.fix [.osl 2]),(2,rP 1)] [(1,.fix [.osl 3]),(3,rP 0)] _ [3] rfl tMPop jq tPop trivial (by repeat' first|exact trivial|(intro _;assumption)|apply And.intro) (th rfl rfl) (by simp [keysO]) (by simp [rP,A4]) ?_
 simp only [rP,Zm,A0,↓A3,seval]
 refine rK (Wk.refl _ _) ?_
 simp only [A7,A0,↓A3,seval]
def Fx:List D:=[.int .i64 2,.int .i64 1,.int .i64 1,.int .i64 101,.int .i64 5000,.int .i64 0,.int .i64 0,.int .i64 0,.int .i64 255]
def T1:D:=.sl false 9 1 (λ_=>Fx)
def Eu (a:Int):List D:=[.int .i64 3,.int .i64 0,.int .i64 8,.int .i64 1,.int .i64 a]
def L1 (a:Int):D:=.sl false 5 1 (λ_=>Eu a)
theorem X4 (n:Nat) (h:n≤1):n=0∨n=1:=by omega
def oS2 (k:Nat):St:=if k=0 then ⟨[(3,.own 11 0),(7,.d (.sl true 0 0 λ_=>[]))],[(11,.fix [.osl 900]),(900,rP 1)],[11,900]⟩ else ⟨[(3,.own 11 0),(7,.osl 1000)],[(11,.fix [.osl 900]),(900,rP 0),(1000,.row 3 1 1 (λ_=>[.int .i64 0]))],[11,900,1000]⟩
theorem tOrder:Aj Tryz.prog 34 [.d T1] [] (.d (.sl false 1 1 λ_=>[.int .i64 0])) [] []:=by
 have cp:=((tHPush.sw 1 11).sw 2 900).sw 3 901
 have co:=((tHPop.sw 1 11).sw 2 900).sw 3 901
 have l0:=(vt 0).sw 2 900
 have l1:=(vt 1).sw 2 900
 simp only [X9,Zm,rP,Int.natCast_zero,Int.natCast_one,A0,↓A3,seval] at cp co l0 l1
 refine qP Tryz.func34 λc hP hfn=>?_;simp only [T1,Fx,A0,↓A3,seval]
 repeat' first|refine ⟨λh=>?_,λh=>?_⟩|refine aX ?_|fail
 refine B4.loop (X:=Nat) (λk=>⟨[(3,.own 11 0),(12,.d T1),(13,.d (.int .i64 1)),(14,.d (.int .i64 (k:Nat)))],[(11,.fix [.osl 900]),(900,rP k)],[11,900]⟩) (λk=>k≤1) (λk=>1-k) 0 (by omega)
  ((Wk.row0F 11 0 900 179 3 (λ_=>[.int .i64 1,.int .i64 0,.int .i64 0]) rfl rfl (by simp)).trans (Wk.of _ hfn rfl (by simp only [T1,Fx,Int.natCast_zero,Int.natCast_one,A7,A0,↓A3,seval]) (by simp only [rP,A7,A0,↓A3,seval]))) ?_
 intro k hk
 rcases X4 k hk with rfl|rfl
 ·simp only [T1,Fx,rP,Int.natCast_zero,Int.natCast_one,A0,↓A3,seval]
  repeat' first|refine ⟨λh=>?_,λh=>?_⟩|refine aX ?_|fail
  refine tM hP cp ?_ (hin:=by simp [own?])
  simp only [A0,↓A3,seval]
  exact Al.on 1 (by omega) (by omega) ((Wk.sw 901 900 _ hfn (by simp) (by simp)).trans (Wk.of _ hfn rfl (by simp only [Va,Int.natCast_one,A7,A0,↓A3,seval]) (by simp only [A7,A0,↓A3,seval])))
 ·simp only [T1,Fx,rP,Int.natCast_zero,Int.natCast_one,A0,↓A3,seval]
  repeat' first|refine ⟨λh=>?_,λh=>?_⟩|refine aX ?_|fail
  refine B4.loop (X:=Nat) oS2 (λk=>k≤1) (λk=>1-k) 0 (by omega) (Wk.of _ hfn rfl (by simp only [oS2,if_true,A7,A0,↓A3,seval]) (by simp only [oS2,rP,if_true,A7,A0,↓A3,seval])) ?_
  intro k hk
  rcases X4 k hk with rfl|rfl
  ·simp only [oS2,if_true,rP,A0,↓A3,seval]
   refine tK hP l1 (by simp [own?]) ?_
   simp only [A0,↓A3,seval]
   repeat' first|refine ⟨λh=>?_,λh=>?_⟩|refine aX ?_|fail
   refine tM hP co ?_ (hin:=by simp [own?])
   simp only [A0,↓A3,seval]
   repeat' first|refine ⟨λh=>?_,λh=>?_⟩|refine aX ?_|fail
   refine Al.on 1 (by omega) (by omega) ((Wk.sw 56 1000 _ hfn (by simp) (by simp)).trans ((Wk.sw 901 900 _ hfn (by simp) (by simp)).trans (Wk.of _ hfn rfl (by simp only [oS2,if_neg (show ¬(1:Nat)=0 by decide),A7,A0,↓A3,seval]) ?_)))
   simp only [oS2,rP,if_neg (show ¬(1:Nat)=0 by decide),A7,A0,↓A3,seval]
   refine Bf.row rfl λm hm=>?_
   obtain rfl:m=0:=by omega
   rfl
  ·simp only [oS2,if_neg (show ¬(1:Nat)=0 by decide),rP,A0,↓A3,seval]
   refine tK hP l0 (by simp [own?]) ?_
   simp only [A0,↓A3,seval]
   repeat' first|refine ⟨λh=>?_,λh=>?_⟩|refine aX ?_|fail
   refine rK (Wk.pub 1000 rfl) trivial ?_
   simp only [B8,A0,↓A3,seval]
   exact Ag.refl _
def q1:Ty:=⟨2,1,1,101,5000,0,0,0,255⟩
theorem mr:Aj Tryz.prog 63 [.ag (Fx.map .d)] [] (.d (.bool true)) [] []:=by
 have:=Wg q1
 rwa [show M1 q1=true by decide +kernel] at this
theorem xp:Aj Tryz.prog 65 [.ag ((Eu 600).map .d)] [] (.d (.bool true)) [] []:=by
 refine qP Tryz.func65 λc hP hfn=>?_;simp only [Eu,List.map,A0,↓A3,seval]
 repeat' first|(refine tq hP (h:=⟨_,λ_=>by exact xm (by repeat constructor) (by rfl) (by simp),?_⟩);try simp only [List.all_cons,List.all_nil,Xe,A0,↓A3,seval])|refine ⟨λh=>?_,λh=>?_⟩|refine aX ?_|fail
 exact rr
theorem lu:Aj Tryz.prog 95 [.ag (Fx.map .d),.ag ((Eu 600).map .d)] [] (.d (.bool true)) [] []:=by
 have ci:=sIn 1 101 8
 have cr:=mr
 have cl:=xp
 simp only [vS,Fx,Eu,List.map] at ci cr cl
 refine qP Tryz.func95 λc hP hfn=>?_;simp only [Fx,Eu,List.map,A0,↓A3,seval]
 repeat' first|(refine tq hP (h:=⟨_,λ_=>by first|exact cr|exact cl|exact ci,?_⟩);try simp only [A0,↓A3,seval])|refine ⟨λh=>?_,λh=>?_⟩|refine aX ?_|fail
 refine rr (h2:=?_)
 simp only [B8,A7,A0,↓A3,seval]
 decide +kernel
theorem w_5k:IntKind.i64.wrap 5000=5000:=rfl
theorem tBears:Aj Tryz.prog 76 [.ag (Fx.map .d),.ag ((Eu 600).map .d)] [] (.tup [.d (.int .i64 300),.d (.bool true)]) [] []:=by
 have ct:=lu
 have cb:=sBp 600 5000 (by omega) (by omega)
 have e:V1 600 5000=(300,0):=by decide +kernel
 rw [e] at cb
 simp only [Fx,Eu,List.map] at ct cb
 refine qP Tryz.func76 λc hP hfn=>?_;simp only [Fx,Eu,List.map,A0,↓A3,seval]
 repeat' first|(refine tq hP (h:=⟨_,λ_=>by first|exact ct|exact cb,?_⟩);try simp only [A0,↓A3,seval])|refine ⟨λh=>?_,λh=>?_⟩|refine aX ?_|fail
 exact rr
theorem tOver:Aj Tryz.prog 70 [.d T1,.ag ((Eu 600).map .d)] [] (.d (.bool false)) [] []:=by
 have ct:=lu
 simp only [Fx,Eu,List.map] at ct
 refine qP Tryz.func70 λc hP hfn=>?_;simp only [T1,Fx,Eu,List.map,A0,↓A3,seval]
 repeat' first|refine ⟨λh=>?_,λh=>?_⟩|refine aX ?_|fail
 refine B4.loop (X:=Nat) (λk=>⟨[(3,.own 3 0),(5,.d (.int .i64 (5000*k))),(8,.d T1),(9,.d (.int .i64 1)),(10,.d (.int .i64 (k:Nat)))],[(3,.fix ((Eu 600).map .d))],[3]⟩) (λk=>k≤1) (λk=>1-k) 0 (by omega)
  (Wk.of _ hfn rfl (by simp only [T1,Fx,Int.natCast_zero,Int.natCast_one,Int.mul_zero,A7,A0,↓A3,seval]) (by simp only [Eu,List.map,A7,A0,↓A3,seval])) ?_
 intro k hk
 rcases X4 k hk with rfl|rfl
 ·simp only [T1,Fx,Eu,List.map,Int.natCast_zero,Int.natCast_one,Int.mul_zero,A0,↓A3,seval]
  repeat' first|(refine tz hP ct ?_;try simp only [Int.natCast_zero,Int.natCast_one,A0,↓A3,seval])|refine ⟨λh=>?_,λh=>?_⟩|refine aX ?_|fail
  exact Al.on 1 (by omega) (by omega) (Wk.of _ hfn rfl (by simp only [T1,Fx,Va,w_5k,Int.natCast_one,A7,A0,↓A3,seval]) (by simp only [Eu,List.map,A7,A0,↓A3,seval]))
 ·simp only [T1,Fx,Eu,List.map,Int.natCast_zero,Int.natCast_one,A0,↓A3,seval]
  repeat' first|refine ⟨λh=>?_,λh=>?_⟩|refine aX ?_|fail
  exact rr
theorem oMpE {z:D} {f g:Int→D} (h:f=g):Bf (.mp z f) (.mp z g):=by subst h;exact Bf.refl _
theorem tTwice:Aj Tryz.prog 68 [.d T1] [] (.d (.bool false)) [] []:=by
 refine qP Tryz.func68 λc hP hfn=>?_;simp only [T1,Fx,A0,↓A3,seval]
 repeat' first|refine ⟨λh=>?_,λh=>?_⟩|refine aX ?_|fail
 refine B4.loop (X:=Nat) (λk=>⟨[(3,.osl 6),(7,.d T1),(8,.d (.int .i64 1)),(9,.d (.int .i64 (k:Nat)))],[(6,.mp (.bool false) (λm=>.bool (decide (k=1∧m=2))))],[6]⟩) (λk=>k≤1) (λk=>1-k) 0 (by omega)
  (Wk.of _ hfn rfl (by simp only [T1,Fx,Int.natCast_zero,Int.natCast_one,A7,A0,↓A3,seval]) (by simp only [A7,A0,↓A3,seval])) ?_
 intro k hk
 rcases X4 k hk with rfl|rfl
 ·simp only [T1,Fx,Int.natCast_zero,Int.natCast_one,A0,↓A3,seval]
  repeat' first|refine ⟨λh=>?_,λh=>?_⟩|refine aX ?_|fail
  refine ⟨by simp,?_⟩
  exact Al.on 1 (by omega) (by omega) (Wk.of _ hfn rfl (by simp only [T1,Fx,Va,Int.natCast_one,A7,A0,↓A3,seval]) (by simp only [A7,A0,↓A3,seval];exact oMpE (by funext m;by_cases h:m=2<;>simp [h])))
 ·simp only [T1,Fx,Int.natCast_zero,Int.natCast_one,A0,↓A3,seval]
  repeat' first|refine ⟨λh=>?_,λh=>?_⟩|refine aX ?_|fail
  exact rr
theorem tMay1:Aj Tryz.prog 62 [.ag (Fx.map .d)] [] (.d (.bool false)) [] []:=by
 have ct:=mr
 simp only [Fx,List.map] at ct
 refine qP Tryz.func62 λc hP hfn=>?_;simp only [Fx,List.map,A0,↓A3,seval]
 repeat' first|(refine tz hP ct ?_;try simp only [A0,↓A3,seval])|refine ⟨λh=>?_,λh=>?_⟩|refine aX ?_|fail
 exact rr
theorem tMay2:Aj Tryz.prog 64 [.ag ((Eu 600).map .d)] [] (.d (.bool false)) [] []:=by
 have ct:=xp
 simp only [Eu,List.map] at ct
 refine qP Tryz.func64 λc hP hfn=>?_;simp only [Eu,List.map,A0,↓A3,seval]
 repeat' first|(refine tz hP ct ?_;try simp only [A0,↓A3,seval])|refine ⟨λh=>?_,λh=>?_⟩|refine aX ?_|fail
 exact rr
theorem tMay3:Aj Tryz.prog 69 [.ag ((Eu 600).map .d),.mem [T1]] [] (.d (.bool false)) [] []:=by
 have ct:=tOver
 simp only [Eu,List.map] at ct
 refine qP Tryz.func69 λc hP hfn=>?_;simp only [Eu,List.map,A0,↓A3,seval]
 repeat' first|(refine tz hP ct ?_;try simp only [A0,↓A3,seval])|refine ⟨λh=>?_,λh=>?_⟩|refine aX ?_|fail
 exact rr
theorem tContT:Aj Tryz.prog 66 [.d T1,.fn (.func 62) [] []] [] (.d (.bool false)) [] []:=by
 have ci:=W8 .ty [Fx] (λx hx=>by
  rw [List.mem_singleton.1 hx];rfl) 62 [] rfl (λ_=>false) (λx hx=>by
  rw [List.mem_singleton.1 hx];exact tMay1) (by simp)
 have hv:VsLe [.d T1,.fn (.func 62) [] []] [.d (Bw 9 [Fx]),.fn (.func 62) [] []]:=⟨Ag.sl rfl (λ_=>rfl) (λh=>h) (λi hi=>by
  obtain rfl:i=0:=by omega
  rfl),Ag.refl _,trivial⟩
 replace ci:=ci.arg hv
 have e:F0 (λ_=>false) 0 [Fx]=-1:=rfl
 rw [e] at ci
 simp only [K3.ix] at ci
 refine qP Tryz.func66 λc hP hfn=>?_;simp only [A0,↓A3,seval]
 repeat' first|(refine tz hP ci ?_;try simp only [A0,↓A3,seval])|refine ⟨λh=>?_,λh=>?_⟩|refine aX ?_|fail
 exact rr
theorem tIdxL (g:Nat) (caps:List V) (hc:A5 caps=[]) (hg:Aj Tryz.prog g (.ag ((Eu 600).map .d)::caps) [] (.d (.bool false)) [] []):Aj Tryz.prog 94 [.d (L1 600),.fn (.func g) [] caps] [] (.d (.int .i64 (-1))) [] []:=by
 refine qP Tryz.func94 (hna:=by simp [A5,V.names,hc]) λc hP hfn=>?_
 simp only [L1,Eu,A0,↓A3,seval]
 refine B4.loop (X:=Nat) (λk=>⟨[(0,.d (L1 600)),(1,.fn (.func g) [] caps),(7,.d (.int .i64 1)),(8,.d (.int .i64 k))],[],[]⟩)
  (λk=>k≤1) (λk=>1-k) 0 (by omega) (Wk.env (by simp only [L1,Eu,Int.natCast_zero,Int.natCast_one,A7,A0,↓A3,seval])) ?_
 intro k hk
 simp only [Eu,List.map] at hg
 rcases X4 k hk with rfl|rfl
 ·simp only [L1,Eu,Int.natCast_zero,Int.natCast_one,A0,↓A3,seval]
  repeat' first|(refine tz hP hg ?_;try simp only [Int.natCast_zero,Int.natCast_one,A0,↓A3,seval])|refine ⟨λh=>?_,λh=>?_⟩|refine aX ?_|fail
  exact Al.on 1 (by omega) (by omega) (Wk.env (by simp only [L1,Eu,Va,Int.natCast_one,A7,A0,↓A3,seval]))
 ·simp only [L1,Eu,Int.natCast_zero,Int.natCast_one,A0,↓A3,seval]
  repeat' first|refine ⟨λh=>?_,λh=>?_⟩|refine aX ?_|fail
  exact rr
theorem om (g:Nat) (caps:List V) (hc:A5 caps=[]) (hg:Aj Tryz.prog g (.ag ((Eu 600).map .d)::caps) [] (.d (.bool false)) [] []):Aj Tryz.prog 67 [.d (L1 600),.fn (.func g) [] caps] [] (.d (.bool false)) [] []:=by
 have ci:=tIdxL g caps hc hg
 refine qP Tryz.func67 (hna:=by simp [A5,V.names,hc]) λc hP hfn=>?_
 simp only [A0,↓A3,seval]
 repeat' first|(refine tz hP ci ?_;try simp only [A0,↓A3,seval])|refine ⟨λh=>?_,λh=>?_⟩|refine aX ?_|fail
 exact rr
theorem tMay:Aj Tryz.prog 32 [.d T1,.d (L1 600)] [] (.d (.int .i64 0)) [] []:=by
 have c1:=tContT
 have c2:=om _ [] rfl tMay2
 have c3:=tTwice
 have c4:=om _ [.mem [T1]] rfl tMay3
 simp only [T1,L1] at c1 c2 c3 c4
 refine qP Tryz.func32 λc hP hfn=>?_;simp only [T1,L1,A0,↓A3,seval]
 repeat' first|(refine tq hP (h:=⟨_,λ_=>by first|exact c1|exact c2|exact c3,?_⟩);try simp only [Int.natCast_one,A0,↓A3,seval])|refine ⟨λh=>?_,λh=>?_⟩|refine aX ?_|fail
 refine TR.wk _ (Wk.pubF 2 rfl rfl) ?_
 simp only [A0,↓A3,seval]
 repeat' first|(refine tz hP c4 ?_;try simp only [A0,↓A3,seval])|refine ⟨λh=>?_,λh=>?_⟩|refine aX ?_|fail
 exact rr
def rL (a:Int):Go.Bx.Own:=.row 78 5 1 (λ_=>Eu a)
theorem jd (a:Int):Aj Tryz.prog 33 [.d (L1 a)] [] (.osl 900) [(900,rL a)] [900]:=by
 refine qO Tryz.func33 ?_
 intro c hP hfn
 simp only [L1,Eu,A5,V.names,A4,A0,↓A3,seval]
 repeat' first|refine ⟨λh=>?_,λh=>?_⟩|refine aX ?_|fail
 have hfn:c.fn=[]:=by rw [hfn];rfl
 exact rK (Wk.sw 7 900 _ hfn (by simp) (by simp)) (by simp only [rL,Eu,A7,A0,↓A3,seval])
theorem tBrs:Aj Tryz.prog 35 [.ag (Fx.map .d),.d (L1 600)] [] (.d (.sl false 1 1 λ_=>[.int .i64 300])) [] []:=by
 have cb:=tBears
 simp only [Fx,Eu,List.map] at cb
 refine qP Tryz.func35 λc hP hfn=>?_;simp only [L1,Fx,Eu,List.map,A0,↓A3,seval]
 repeat' first|refine ⟨λh=>?_,λh=>?_⟩|refine aX ?_|fail
 refine B4.loop (X:=Nat) (λk=>⟨[(2,.own 2 0),(5,.osl 10),(13,.d (L1 600)),(14,.d (.int .i64 1)),(15,.d (.int .i64 (k:Nat)))],[(2,.fix (Fx.map .d)),(10,.row 3 1 1 (λ_=>[.int .i64 (300*k)]))],[2,10]⟩) (λk=>k≤1) (λk=>1-k) 0 (by omega)
  (Wk.of _ hfn rfl (by simp only [L1,Eu,Int.natCast_zero,Int.natCast_one,A7,A0,↓A3,seval]) (by simp only [Fx,List.map,A7,A0,↓A3,seval])) ?_
 intro k hk
 rcases X4 k hk with rfl|rfl
 ·simp only [L1,Fx,Eu,List.map,Int.natCast_zero,Int.natCast_one,Int.mul_zero,A0,↓A3,seval]
  repeat' first|(refine tz hP cb ?_;try simp only [Int.natCast_zero,Int.natCast_one,A0,↓A3,seval])|refine ⟨λh=>?_,λh=>?_⟩|refine aX ?_|fail
  exact Al.on 1 (by omega) (by omega) (Wk.of _ hfn rfl (by simp only [L1,Eu,Va,Int.natCast_one,A7,A0,↓A3,seval]) (by
   simp only [Fx,List.map,A7,A0,↓A3,seval]
   refine Bf.row rfl λm hm=>?_
   obtain rfl:m=0:=by omega
   rfl))
 ·simp only [L1,Fx,Eu,List.map,Int.natCast_zero,Int.natCast_one,A0,↓A3,seval]
  repeat' first|refine ⟨λh=>?_,λh=>?_⟩|refine aX ?_|fail
  refine rK (Wk.pub 10 rfl) trivial ?_
  simp only [B8,A0,↓A3,seval]
  exact Ag.refl _
def pS:List D:=[.sl false 2 1 (λ_=>[.int .i64 2,.int .i64 300])]
def oO (k:Nat):List (Nat×Go.Bx.Own):=if k=0 then [(900,rL 600),(30,.lit 125 1 1 [.d (.sl true 0 0 λ_=>[])])] else [(900,rL 300),(30,.lit 125 1 1 [.osl 902]),(902,.row 127 2 1 (λ_=>[.int .i64 2,.int .i64 300]))]
def oE (k:Int):List (Nat×V):=[(0,.d T1),(1,.d (L1 600)),(8,.osl 900),(9,.osl 30),(10,.d (L1 600)),(11,.d (.int .i64 1)),(34,.d (.sl false 1 1 λ_=>[.int .i64 0])),(35,.d (.int .i64 1)),(36,.d (.int .i64 k))]
def oN (k:Nat):List Nat:=if k=0 then [30,900] else [30,900,902]
theorem tOf:Aj Tryz.prog 14 [.d T1,.d (L1 600)] [] (.tup [.d (.sl false 1 1 λ_=>pS),.d (.sl false 1 1 λ_=>[.int .i64 300]),.d (.int .i64 0)]) [] []:=by
 have cm:=tMay
 have c0:=jd 600
 have c1:=(jd 600).sw 900 901
 have co:=tOrder
 have cb:=tBrs
 simp only [T1,L1,Fx,Eu,rL,List.map,A0,↓A3,seval] at cm c0 c1 co cb
 refine qP Tryz.func14 λc hP hfn=>?_;simp only [T1,L1,Fx,Eu,A0,↓A3,seval]
 repeat' first|(refine tz hP cm ?_;try simp only [A0,↓A3,seval])|refine ⟨λh=>?_,λh=>?_⟩|refine aX ?_|fail
 refine tM hP c0 ?_ (hin:=by simp [own?])
 simp only [A0,↓A3,seval]
 repeat' first|refine ⟨λh=>?_,λh=>?_⟩|refine aX ?_|fail
 refine tM hP c1 ?_ (hin:=by simp [own?])
 simp only [A0,↓A3,seval]
 refine TR.wk _ (Wk.pub 901 rfl) ?_
 simp only [A0,↓A3,seval]
 repeat' first|(refine tz hP co ?_;try simp only [A0,↓A3,seval])|refine ⟨λh=>?_,λh=>?_⟩|refine aX ?_|fail
 refine B4.loop (X:=Nat) (λk=>⟨oE (k:Nat),oO k,oN k⟩) (λk=>k≤1) (λk=>1-k) 0 (by omega)
  (Wk.of _ hfn rfl (by simp only [oE,T1,L1,Fx,Eu,Int.natCast_zero,Int.natCast_one,A7,A0,↓A3,seval]) (by simp only [oO,rL,Eu,if_true,A7,A0,↓A3,seval];exact Bf.rowLit rfl)) ?_
 intro k hk
 rcases X4 k hk with rfl|rfl
 ·simp only [oE,oO,oN,rL,T1,L1,Fx,Eu,List.map,if_true,Int.natCast_zero,A0,↓A3,seval]
  repeat' first|(refine tz hP cb ?_;try simp only [Int.natCast_zero,Int.natCast_one,A0,↓A3,seval])|refine ⟨λh=>?_,λh=>?_⟩|refine aX ?_|fail
  refine B4.loop (X:=Nat) (λk=>⟨oE 0++[(14,.own 14 0),(54,.d (.sl false 1 1 λ_=>[.int .i64 300])),(55,.d (.int .i64 1)),(56,.d (.int .i64 (k:Nat)))],(14,.fix (Fx.map .d))::oO k,14::oN k⟩) (λk=>k≤1) (λk=>1-k) 0 (by omega)
   (Wk.of _ hfn rfl (by simp only [oE,List.cons_append,List.nil_append,T1,L1,Fx,Eu,Int.natCast_zero,Int.natCast_one,A7,A0,↓A3,seval]) (by simp only [oO,rL,Fx,Eu,List.map,if_true,A7,A0,↓A3,seval])) ?_
  intro k hk
  rcases X4 k hk with rfl|rfl
  ·simp only [oE,oO,oN,rL,T1,L1,Fx,Eu,List.map,List.cons_append,List.nil_append,if_true,Int.natCast_zero,A0,↓A3,seval]
   repeat' first|refine ⟨λh=>?_,λh=>?_⟩|refine aX ?_|fail
   rotate_left
   ·exact absurd h (by decide)
   refine Al.on 1 (by omega) (by omega) ((Wk.sw 90 902 _ hfn (by simp) (by simp)).trans (Wk.of _ hfn rfl (by simp only [oE,List.cons_append,List.nil_append,T1,L1,Fx,Eu,Va,Int.natCast_one,A7,A0,↓A3,seval]) ?_))
   simp only [oO,rL,Fx,Eu,List.map,if_neg (show ¬(1:Nat)=0 by decide),A7,A0,↓A3,seval]
   refine ⟨Bf.row rfl λm hm=>?_,?_⟩
   ·obtain rfl:m=0:=by omega
    rfl
   ·refine Bf.row rfl λm hm=>?_
    obtain rfl:m=0:=by omega
    rfl
  ·simp only [oE,oO,oN,rL,T1,L1,Fx,Eu,List.map,List.cons_append,List.nil_append,if_neg (show ¬(1:Nat)=0 by decide),Int.natCast_one,A0,↓A3,seval]
   repeat' first|refine ⟨λh=>?_,λh=>?_⟩|refine aX ?_|fail
   exact Al.on 1 (by omega) (by omega) (Wk.of _ hfn rfl (by simp only [oE,T1,L1,Fx,Eu,Va,Int.natCast_one,A7,A0,↓A3,seval]) (by simp only [oO,rL,Eu,if_neg (show ¬(1:Nat)=0 by decide),A7,A0,↓A3,seval]))
 ·simp only [oE,oO,oN,rL,T1,L1,Fx,Eu,List.map,if_neg (show ¬(1:Nat)=0 by decide),Int.natCast_one,A0,↓A3,seval]
  repeat' first|refine ⟨λh=>?_,λh=>?_⟩|refine aX ?_|fail
  refine B4.loop (X:=Nat) (λk=>⟨[(9,.osl 30),(17,.osl 96),(97,.osl 900),(98,.d (.int .i64 1)),(99,.d (.int .i64 (k:Nat)))],(96,.row 3 1 1 (λ_=>[.int .i64 (300*k)]))::oO 1,96::oN 1⟩) (λk=>k≤1) (λk=>1-k) 0 (by omega)
   (Wk.of _ hfn rfl (by simp only [Int.natCast_zero,A7,A0,↓A3,seval]) (by simp only [oO,rL,Eu,if_neg (show ¬(1:Nat)=0 by decide),Int.natCast_zero,Int.mul_zero,A7,A0,↓A3,seval])) ?_
  intro k hk
  rcases X4 k hk with rfl|rfl
  ·simp only [oO,oN,rL,Eu,if_neg (show ¬(1:Nat)=0 by decide),Int.natCast_zero,Int.mul_zero,A0,↓A3,seval]
   repeat' first|refine ⟨λh=>?_,λh=>?_⟩|refine aX ?_|fail
   refine Al.on 1 (by omega) (by omega) (Wk.of _ hfn rfl (by simp only [Va,Int.natCast_one,A7,A0,↓A3,seval]) ?_)
   simp only [oO,rL,Eu,if_neg (show ¬(1:Nat)=0 by decide),A7,A0,↓A3,seval]
   refine Bf.row rfl λm hm=>?_
   obtain rfl:m=0:=by omega
   rfl
  ·simp only [oO,oN,rL,Eu,if_neg (show ¬(1:Nat)=0 by decide),Int.natCast_one,Int.mul_one,A0,↓A3,seval]
   repeat' first|refine ⟨λh=>?_,λh=>?_⟩|refine aX ?_|fail
   refine rK ((Wk.pub 96 rfl).trans ((Wk.deep (K':=30) (z:=1) (n:=1) (F:=λ_=>pS) rfl (λi _=>rfl) ?_).trans (Wk.pub 30 rfl))) trivial ?_
   ·intro i j x hi hj hx
    obtain rfl:i=0:=by omega
    obtain rfl:j=0:=by omega
    cases hx
    exact .inr ⟨902,_,_,_,_,by decide,rfl,rfl,rfl⟩
   ·simp only [B8,A0,↓A3,seval]
    exact Ag.refl _
theorem yk:Aj Tryz.prog 61 [.d (.int .i64 1601)] [] (.d (.int .i64 0)) [] []:=by
 refine qP Tryz.func61 λc hP hfn=>?_;simp only [A0,↓A3,seval]
 repeat' first|refine ⟨λh=>?_,λh=>?_⟩|refine aX ?_|fail
 exact rr
theorem rIs (d:Int) (h:d=8∨d=11):Aj Tryz.prog 60 [.d (.int .i64 d)] [] (.d (.bool true)) [] []:=by
 rcases h with rfl|rfl
 all_goals
  refine qP Tryz.func60 λc hP hfn=>?_;simp only [A0,↓A3,seval]
  repeat' first|refine ⟨λh=>?_,λh=>?_⟩|refine aX ?_|fail
  exact rr
theorem xu (d:Int) (h:d=8∨d=11):Aj Tryz.prog 31 [.d (.int .i64 d)] [] (.tup [.d (.int .i64 1601),.d (.int .i64 0)]) [] []:=by
 have ci:=rIs d h
 have e:IntKind.i64.wrap (1601+IntKind.i64.wrap ((IntKind.i64.wrap (d-1)).tdiv 365))=1601:=by rcases h with rfl|rfl<;>rfl
 have g:decide ((0:Int)≥d)=false:=by rcases h with rfl|rfl<;>rfl
 refine qP Tryz.func31 λc hP hfn=>?_;simp only [A0,↓A3,seval]
 repeat' first|(refine tz hP ci ?_;try simp only [e,A0,↓A3,seval])|refine ⟨λh=>?_,λh=>?_⟩|refine aX ?_|fail
 refine B4.loop (X:=Unit) (λ_=>⟨[(0,.d (.int .i64 d)),(4,.d (.int .i64 1601))],[],[]⟩) (λ_=>True) (λ_=>0) () trivial (Wk.of _ hfn rfl (by simp only [e,A7,A0,↓A3,seval]) trivial) ?_
 rintro ⟨⟩ -
 simp only [A0,↓A3,seval]
 repeat' first|(refine tz hP yk ?_;try simp only [g,A0,↓A3,seval])|refine ⟨λh=>?_,λh=>?_⟩|refine aX ?_|fail
 exact rr
theorem rMoney:Aj Tryz.prog 59 [.d (.int .i64 600)] [] (.d (.bool true)) [] []:=by
 refine qP Tryz.func59 λc hP hfn=>?_;simp only [A0,↓A3,seval]
 repeat' first|refine ⟨λh=>?_,λh=>?_⟩|refine aX ?_|fail
 exact rr
def O7:List D:=[.int .i64 8,.int .i64 11,.int .i64 600]
theorem yy:Aj Tryz.prog 30 [.ag (O7.map .d)] [] (.d (.int .i64 0)) [] []:=by
 refine qP Tryz.func30 λc hP hfn=>?_;simp only [O7,List.map,A0,↓A3,seval]
 repeat' first|(refine tz hP rMoney ?_;try simp only [A0,↓A3,seval])|refine ⟨λh=>?_,λh=>?_⟩|refine aX ?_|fail
 exact rr
theorem Bf.litRow {e sz n:Nat} {cs:List V} {F:Nat→List D} (hF:∀ i,i<n→(F i).length=sz) (h:∀ i j x,i<n→j<sz→(F i)[j]?=some x→cs[i*sz+j]?=some (.d x)):Bf (.lit e sz n cs) (.row e sz n F):=by
 rintro β E w k ⟨v,xs,g1,g2,g3,g4⟩
 refine ⟨v,xs,g1,g2,hF,λi j hi hj x hx=>?_⟩
 have hq:i*sz+j<xs.length:=by
  have:(i+1)*sz≤n*sz:=Nat.mul_le_mul_right _ hi
  rw [Nat.succ_mul] at this
  rw [g2.1];omega
 exact ⟨xs[i*sz+j],List.getElem?_eq_getElem hq,J3 (g4 _ _ _ (List.getElem?_eq_getElem hq) (h i j x hi hj hx))⟩
theorem g_600:decide ((600:Int)>100000000000000000)=false:=rfl
theorem p_600:nthD (Db [.int .i64 0] 0 [.int .i64 (IntKind.i64.wrap 600)]) 0=.d (.int .i64 600):=rfl
theorem w_01:IntKind.i64.wrap (IntKind.i64.wrap 0+1)=1:=rfl
theorem w_00:IntKind.i64.wrap 0=0:=rfl
def R1:D:=.sl false 3 1 (λ_=>O7)
def rA (k:Nat) (e:Int):List (Nat×V):=[(0,.d R1),(2,.own 2 0),(4,.d (.int .i64 (if k=0 then 2401 else 1601))),(5,.d (.int .i64 (if k=0 then 0 else 1601))),(28,.d R1),(29,.d (.int .i64 1)),(30,.d (.int .i64 e))]
def o2:Nat×Go.Bx.Own:=(2,.fix [.d (.int .i64 0),.d (.sl true 0 0 λ_=>[])])
def rG (k:Nat) (a:Int):List (Nat×Go.Bx.Own):=if k=0 then [o2,(14,.fix [.d (.int .i64 1601),.osl 900]),(900,.lit 45 1 0 [])] else [o2,(14,.fix [.d (.int .i64 1601),.osl 900]),(900,.lit 45 1 1 [.osl 901]),(901,.row 3 1 1 (λ_=>[.int .i64 a]))]
def rN (k:Nat):List Nat:=if k=0 then [2,14,900] else [2,14,900,901]
theorem Ym:¬(1:Nat)=0:=by decide
theorem rOf:Aj Tryz.prog 13 [.d R1] [] (.tup [.ag [.d (.int .i64 1601),.d (.sl false 1 1 λ_=>[.sl false 1 1 λ_=>[.int .i64 600]])],.d (.int .i64 0)]) [] []:=by
 have cc:=yy
 have c1:=xu 8 (.inl rfl)
 have c2:=xu 11 (.inr rfl)
 simp only [O7,List.map] at cc
 refine qP Tryz.func13 λc hP hfn=>?_;simp only [R1,O7,A0,↓A3,seval]
 repeat' first|refine ⟨λh=>?_,λh=>?_⟩|refine aX ?_|fail
 refine B4.loop (X:=Nat) (λk=>⟨rA k (k:Nat),[o2],[2]⟩) (λk=>k≤1) (λk=>1-k) 0 (by omega)
  (Wk.of _ hfn rfl (by simp only [rA,R1,O7,if_true,Int.natCast_zero,Int.natCast_one,A7,A0,↓A3,seval]) (by simp only [o2,A7,A0,↓A3,seval])) ?_
 intro k hk
 rcases X4 k hk with rfl|rfl
 ·simp only [rA,o2,R1,O7,List.map,if_true,Int.natCast_zero,A0,↓A3,seval]
  repeat' first|(refine tq hP (h:=⟨_,λ_=>by first|exact cc|exact c1|exact c2,?_⟩);try simp only [Int.natCast_zero,Int.natCast_one,A0,↓A3,seval])|refine ⟨λh=>?_,λh=>?_⟩|refine aX ?_|fail
  exact Al.on 1 (by omega) (by omega) (Wk.of _ hfn rfl (by simp only [rA,R1,O7,Va,if_neg Ym,Int.natCast_one,A7,A0,↓A3,seval];exact ⟨by decide,by decide⟩) (by simp only [o2,A7,A0,↓A3,seval]))
 ·simp only [rA,o2,R1,O7,List.map,if_neg Ym,Int.natCast_one,A0,↓A3,seval]
  repeat' first|refine ⟨λh=>?_,λh=>?_⟩|refine aX ?_|fail
  ·exact absurd h (by decide)
  refine B4.loop (X:=Nat) (λk=>⟨[(0,.d R1),(2,.own 2 0),(4,.d (.int .i64 1601)),(13,.d (.int .i64 1)),(14,.own 14 0),(73,.d (.int .i64 1)),(74,.d (.int .i64 (k:Nat)))],rG k 0,rN k⟩) (λk=>k≤1) (λk=>1-k) 0 (by omega)
   ((Wk.row0F 14 1 900 45 1 (λ_=>[]) rfl rfl (by simp)).trans (Wk.of (b:=⟨[(0,.d R1),(2,.own 2 0),(4,.d (.int .i64 1601)),(13,.d (.int .i64 1)),(14,.own 14 0),(73,.d (.int .i64 1)),(74,.d (.int .i64 (0:Nat)))],rG 0 0,rN 0⟩) _ hfn rfl (by simp only [R1,O7,w_01,Int.natCast_zero,A7,A0,↓A3,seval]) (by simp only [rG,o2,if_true,A7,A0,↓A3,seval];exact Bf.rowLit rfl))) ?_
  intro k hk
  rcases X4 k hk with rfl|rfl
  ·simp only [rG,rN,o2,R1,O7,if_true,Int.natCast_zero,A0,↓A3,seval]
   repeat' first|refine ⟨λh=>?_,λh=>?_⟩|refine aX ?_|fail
   refine ⟨⟨by decide,by decide,by decide⟩,⟨⟨rfl,trivial⟩,by decide⟩,rfl,?_⟩
   refine Al.on 1 (by omega) (by omega) ((Wk.sw 84 900 _ hfn (by simp) (by simp)).trans ((Wk.sw 82 901 _ hfn (by simp) (by simp)).trans (Wk.of _ hfn rfl (by simp only [R1,O7,Va,Int.natCast_one,A7,A0,↓A3,seval]) ?_)))
   simp only [rG,o2,if_neg Ym,A7,A0,↓A3,seval]
   exact Bf.row rfl λ_ _=>rfl
  ·simp only [rG,rN,o2,R1,O7,if_neg Ym,Int.natCast_one,A0,↓A3,seval]
   repeat' first|refine ⟨λh=>?_,λh=>?_⟩|refine aX ?_|fail
   refine B4.loop (X:=Nat) (λk=>⟨[(2,.own 2 0),(4,.d (.int .i64 1601)),(14,.own 14 0),(87,.d R1),(88,.d (.int .i64 1)),(89,.d (.int .i64 (k:Nat)))],rG 1 (600*k),rN 1⟩) (λk=>k≤1) (λk=>1-k) 0 (by omega)
    (Wk.of _ hfn rfl (by simp only [R1,O7,Int.natCast_zero,A7,A0,↓A3,seval]) (by simp only [rG,o2,if_neg Ym,Int.natCast_zero,Int.mul_zero,A7,A0,↓A3,seval])) ?_
   intro k hk
   rcases X4 k hk with rfl|rfl
   ·simp only [rG,rN,o2,R1,O7,if_neg Ym,Int.natCast_zero,Int.mul_zero,A0,↓A3,seval]
    repeat' first|(refine tq hP (h:=⟨_,λ_=>by first|exact c1|exact c2,?_⟩);try simp only [Int.natCast_zero,Int.natCast_one,w_00,A0,↓A3,seval])|refine ⟨λh=>?_,λh=>?_⟩|refine aX ?_|fail
    refine B4.loop (X:=Nat) (λk=>⟨[(2,.own 2 0),(4,.d (.int .i64 1601)),(14,.own 14 0),(17,.own 17 0),(22,.osl 901),(23,.d (.int .i64 (k:Nat))),(87,.d R1),(88,.d (.int .i64 1)),(89,.d (.int .i64 0))],(17,.fix (O7.map .d))::rG 1 (600*k),17::rN 1⟩) (λk=>k≤1) (λk=>1-k) 0 (by omega)
     (Wk.of _ hfn rfl (by simp only [R1,O7,w_00,Int.natCast_zero,A7,A0,↓A3,seval]) (by simp only [rG,o2,O7,List.map,if_neg Ym,Int.natCast_zero,Int.mul_zero,A7,A0,↓A3,seval])) ?_
    intro k hk
    rcases X4 k hk with rfl|rfl
    ·simp only [rG,rN,o2,R1,O7,List.map,if_neg Ym,Int.natCast_zero,Int.mul_zero,A0,↓A3,seval]
     repeat' first|refine ⟨λh=>?_,λh=>?_⟩|refine aX ?_|fail
     simp only [p_600,g_600,A0,↓A3,seval]
     refine Al.on 1 (by omega) (by omega) (Wk.of _ hfn rfl (by simp only [R1,O7,Va,Int.natCast_one,A7,A0,↓A3,seval]) ?_)
     simp only [rG,o2,O7,List.map,if_neg Ym,Int.natCast_one,Int.mul_one,A7,A0,↓A3,seval]
     refine Bf.row rfl λm hm=>?_
     obtain rfl:m=0:=by omega
     rfl
    ·simp only [rG,rN,o2,R1,O7,List.map,if_neg Ym,Int.natCast_one,Int.mul_one,A0,↓A3,seval]
     repeat' first|refine ⟨λh=>?_,λh=>?_⟩|refine aX ?_|fail
     refine Al.on 1 (by omega) (by omega) (Wk.of _ hfn rfl (by simp only [R1,O7,Va,Int.natCast_one,A7,A0,↓A3,seval]) ?_)
     simp only [rG,o2,if_neg Ym,Int.natCast_one,Int.mul_one,A7,A0,↓A3,seval]
   ·simp only [rG,rN,o2,R1,O7,if_neg Ym,Int.natCast_one,Int.mul_one,A0,↓A3,seval]
    repeat' first|refine ⟨λh=>?_,λh=>?_⟩|refine aX ?_|fail
    refine rK ((Wk.pub 901 rfl).trans (Wk.trans ?_ (Wk.pub (a:=⟨[(2,.own 2 0),(3,.d (.int .i64 0))],[(2,.fix [.d (.int .i64 1601),.osl 900]),(900,.row 45 1 1 (λ_=>[.sl false 1 1 λ_=>[.int .i64 600]]))],[2,900]⟩) 900 rfl))) trivial ?_
    ·refine Wk.of _ hfn rfl (by simp only [A7,A0,↓A3,seval]) ?_
     simp only [A7,A0,↓A3,seval]
     refine Bf.litRow (λi _=>rfl) λi j x hi hj hx=>?_
     obtain rfl:i=0:=by omega
     obtain rfl:j=0:=by omega
     cases hx
     rfl
    ·simp only [B8,A0,↓A3,seval]
     exact Ag.refl _
def G1:D:=.sl false 1 1 (λ_=>[.sl false 1 1 λ_=>[.int .i64 600]])
def I1 (n:Int):D:=.sl false 1 1 (λ_=>[.int .i64 n])
def iE (k:Int):List (Nat×V):=[(3,.d (.int .i64 1)),(31,.d G1),(32,.d (.int .i64 1)),(33,.d (.int .i64 k))]
theorem rRight:Aj Tryz.prog 36 [.ag [.d (.int .i64 1601),.d G1]] [] (.d (.bool true)) [] []:=by
 refine qP Tryz.func36 λc hP hfn=>?_;simp only [G1,A0,↓A3,seval]
 repeat' first|refine ⟨λh=>?_,λh=>?_⟩|refine aX ?_|fail
 ·exact absurd h (by decide)
 refine B4.loop (X:=Nat) (λk=>⟨iE (k:Nat),[],[]⟩) (λk=>k≤1) (λk=>1-k) 0 (by omega)
  (Wk.of _ hfn rfl (by simp only [iE,G1,Int.natCast_zero,Int.natCast_one,A7,A0,↓A3,seval]) trivial) ?_
 intro k hk
 rcases X4 k hk with rfl|rfl
 ·simp only [iE,G1,Int.natCast_zero,A0,↓A3,seval]
  repeat' first|refine ⟨λh=>?_,λh=>?_⟩|refine aX ?_|fail
  ·exact absurd h (by decide)
  refine B4.loop (X:=Nat) (λk=>⟨iE 0++[(44,.d (I1 600)),(45,.d (.int .i64 1)),(46,.d (.int .i64 (k:Nat)))],[],[]⟩) (λk=>k≤1) (λk=>1-k) 0 (by omega)
   (Wk.of _ hfn rfl (by simp only [iE,G1,I1,List.cons_append,List.nil_append,Int.natCast_zero,Int.natCast_one,A7,A0,↓A3,seval]) trivial) ?_
  intro k hk
  rcases X4 k hk with rfl|rfl
  ·simp only [iE,G1,I1,List.cons_append,List.nil_append,Int.natCast_zero,A0,↓A3,seval]
   repeat' first|refine ⟨λh=>?_,λh=>?_⟩|refine aX ?_|fail
   exact Al.on 1 (by omega) (by omega) (Wk.of _ hfn rfl (by simp only [iE,G1,I1,List.cons_append,List.nil_append,Va,Int.natCast_one,A7,A0,↓A3,seval]) trivial)
  ·simp only [iE,G1,I1,List.cons_append,List.nil_append,Int.natCast_one,A0,↓A3,seval]
   repeat' first|refine ⟨λh=>?_,λh=>?_⟩|refine aX ?_|fail
   exact Al.on 1 (by omega) (by omega) (Wk.of _ hfn rfl (by simp only [iE,G1,Va,Int.natCast_one,A7,A0,↓A3,seval]) trivial)
 ·simp only [iE,G1,Int.natCast_one,A0,↓A3,seval]
  repeat' first|refine ⟨λh=>?_,λh=>?_⟩|refine aX ?_|fail
  exact rr
def gS2 (k:Nat):St:=if k=0 then ⟨[(3,.d (.sl true 0 0 λ_=>[])),(10,.d G1),(11,.d (.int .i64 1)),(12,.d (.int .i64 0))],[],[]⟩ else ⟨[(3,.osl 900),(10,.d G1),(11,.d (.int .i64 1)),(12,.d (.int .i64 1))],[(900,.row 3 1 1 (λ_=>[.int .i64 600]))],[900]⟩
theorem rDiag:Aj Tryz.prog 16 [.ag [.d (.int .i64 1601),.d G1]] [] (.d (I1 600)) [] []:=by
 have cr:=rRight
 simp only [G1] at cr
 refine qP Tryz.func16 λc hP hfn=>?_;simp only [G1,A0,↓A3,seval]
 repeat' first|(refine tz hP cr ?_;try simp only [A0,↓A3,seval])|refine ⟨λh=>?_,λh=>?_⟩|refine aX ?_|fail
 refine B4.loop (X:=Nat) gS2 (λk=>k≤1) (λk=>1-k) 0 (by omega)
  (Wk.of _ hfn rfl (by simp only [gS2,G1,if_true,A7,A0,↓A3,seval]) (by simp only [gS2,if_true,A7,A0,↓A3,seval])) ?_
 intro k hk
 rcases X4 k hk with rfl|rfl
 ·simp only [gS2,G1,if_true,A0,↓A3,seval]
  repeat' first|refine ⟨λh=>?_,λh=>?_⟩|refine aX ?_|fail
  refine ⟨by decide,by decide,?_⟩
  refine Al.on 1 (by omega) (by omega) ((Wk.sw 24 900 _ hfn (by simp) (by simp)).trans (Wk.of _ hfn rfl (by simp only [gS2,G1,Va,if_neg Ym,A7,A0,↓A3,seval]) ?_))
  simp only [gS2,if_neg Ym,A7,A0,↓A3,seval]
  refine Bf.row rfl λm hm=>?_
  obtain rfl:m=0:=by omega
  rfl
 ·simp only [gS2,G1,if_neg Ym,A0,↓A3,seval]
  repeat' first|refine ⟨λh=>?_,λh=>?_⟩|refine aX ?_|fail
  refine rK (Wk.pub 900 rfl) trivial ?_
  simp only [B8,A0,↓A3,seval]
  exact Ag.refl _
theorem wj (n:Int):Aj Tryz.prog 15 [.d (I1 n),.d (.sl true 1 1 (litRow 1 [.int .i64 n]))] [] (.d (.bool true)) [] []:=by
 refine qP Tryz.func15 λc hP hfn=>?_;simp only [I1,A0,↓A3,seval]
 repeat' first|refine ⟨λh=>?_,λh=>?_⟩|refine aX ?_|fail
 refine B4.loop (X:=Nat) (λk=>⟨[(0,.d (I1 n)),(1,.d (.sl true 1 1 (litRow 1 [.int .i64 n]))),(5,.d (.int .i64 (k:Nat)))],[],[]⟩) (λk=>k≤1) (λk=>1-k) 0 (by omega)
  (Wk.of _ hfn rfl (by simp only [I1,Int.natCast_zero,A7,A0,↓A3,seval]) trivial) ?_
 intro k hk
 rcases X4 k hk with rfl|rfl
 ·simp only [I1,Int.natCast_zero,A0,↓A3,seval]
  repeat' first|refine ⟨λh=>?_,λh=>?_⟩|refine aX ?_|fail
  ·exact absurd h (by simp)
  exact Al.on 1 (by omega) (by omega) (Wk.of _ hfn rfl (by simp only [I1,Va,Int.natCast_one,A7,A0,↓A3,seval]) trivial)
 ·simp only [I1,Int.natCast_one,A0,↓A3,seval]
  repeat' first|refine ⟨λh=>?_,λh=>?_⟩|refine aX ?_|fail
  exact rr
def k1:Cv:=⟨1,1000,1500,100,10000⟩
def f1:Fi:=⟨⟨3,1,1,8,9,0⟩,[⟨10,1,900⟩,⟨11,2,700⟩]⟩
theorem k1_n:nL k1 [f1]=1:=by decide +kernel
theorem k1_c:Cb k1 [f1]=0:=by decide +kernel
theorem k1_p:(Ts k1 [f1] 0).pd=600:=by decide +kernel
theorem k1_r:(Ts k1 [f1] 0).rs=200:=by decide +kernel
theorem Ag.slD {full full':Bool} {sz n:Nat} {f f':Nat→List D} (hb:full'=true→full=true) (hf:∀ i,i<n→(f i).length=(f' i).length∧∀ (j:Nat) (x y:D),(f i)[j]?=some x→(f' i)[j]?=some y→Ag (.d x) (.d y)):Ag (.d (.sl full sz n f)) (.d (.sl full' sz n f')):=by
 intro β E w v hv
 cases hv with
 |d _ _ hv =>
  refine .d _ _ ?_
  generalize hN:n=m at hv ⊢
  cases hv with
  |nil _ _ _ _=>exact .nil _ _ _ _
  |sl _ _ _ _ b off c g hc hfu hl hcell hrel =>
   subst hN
   refine .sl _ _ _ _ b off c g hc (λh=>hfu (hb h)) (λi hi=>by rw [←(hf i hi).1];exact hl i hi) hcell (λi j hi hj y hy=>?_)
   have hlt:j<(f i).length:=by rw [hl i hi];exact hj
   have h1:=hrel i j hi hj _ (List.getElem?_eq_getElem hlt)
   have h2:=(hf i hi).2 j _ y (List.getElem?_eq_getElem hlt) hy
   exact J3 (h2 β E w _ (.d _ _ h1))
def a1:D:=.sl true 3 2 (litRow 3 [.int .i64 10,.int .i64 1,.int .i64 900,.int .i64 11,.int .i64 2,.int .i64 700])
theorem a1_le:Ag (.d a1) (.d (Dr f1.ac)):=
 Ag.sl rfl (λ_=>rfl) (λh=>by cases h) λi hi=>by
  have:i=0∨i=1:=by omega
  rcases this with rfl|rfl<;>rfl
def e1:D:=.sl true 7 1 (litRow 7 [.int .i64 3,.int .i64 1,.int .i64 1,.int .i64 8,.int .i64 9,.int .i64 0,a1])
theorem e1_le:Ag (.d e1) (.d (Ig [f1])):=
 Ag.slD (λh=>by cases h) λi hi=>by
  obtain rfl:i=0:=by omega
  refine ⟨rfl,λj x y hx hy=>?_⟩
  match j,hx,hy with
  |0,hx,hy=>cases hx;cases hy;exact Ag.refl _
  |1,hx,hy=>cases hx;cases hy;exact Ag.refl _
  |2,hx,hy=>cases hx;cases hy;exact Ag.refl _
  |3,hx,hy=>cases hx;cases hy;exact Ag.refl _
  |4,hx,hy=>cases hx;cases hy;exact Ag.refl _
  |5,hx,hy=>cases hx;cases hy;exact Ag.refl _
  |6,hx,hy=>cases hx;cases hy;exact a1_le
theorem Ya {sz:Nat} {ds:List D} (h:ds.length=sz):Ag (.d (.sl true sz 1 (litRow sz ds))) (.d (.sl false sz 1 λ_=>ds)):=
 Ag.sl rfl (λ_=>rfl) (λh=>by cases h) λi hi=>by
  obtain rfl:i=0:=by omega
  rw [litRow,Nat.zero_mul,List.drop_zero,←h,List.take_length]
theorem sAlive:Aj Tryz.prog 5 [] [] (.d (.bool true)) [] []:=by
 have ca:=sOfL k1 [f1] ⟨by decide,λf h=>by rw [List.mem_singleton.1 h];decide⟩ ⟨by decide,by decide⟩ ⟨by decide,by decide⟩ ⟨by decide,by decide⟩
 replace ca:=ca.arg (show VsLe [vC k1,.d e1] _ from ⟨Ag.refl _,e1_le,trivial⟩)
 have ct:=rOf.arg (show VsLe [.d (.sl true 3 1 (litRow 3 O7))] _ from ⟨Ya rfl,trivial⟩)
 have cw:=tOf.arg (show VsLe [.d (.sl true 9 1 (litRow 9 Fx)),.d (.sl true 5 1 (litRow 5 (Eu 600)))] _ from ⟨Ya rfl,Ya rfl,trivial⟩)
 have cd:=rDiag
 have s1:=wj 600
 have s2:=wj 300
 have hp:=k1_p
 have hr:=k1_r
 have er:(wg k1 [f1]).2=0:=k1_c
 have eo:(wg k1 [f1]).1=Kz (Ts k1 [f1]) 1:=by rw [wg,k1_n]
 rw [er,eo] at ca
 generalize Ts k1 [f1]=g at *
 simp only [vC,cC,k1,e1,a1,Kz,Kc] at ca
 simp only [O7,Fx,Eu,G1,I1] at ct cw cd s1 s2
 refine qP Tryz.func5 λc hP hfn=>?_;simp only [A0,↓A3,seval]
 repeat' first|(refine tq hP (h:=⟨_,λ_=>by first|exact ca|exact ct|exact cw|exact cd|exact s1|exact s2,?_⟩);try simp only [A0,↓A3,seval])|refine ⟨λh=>?_,λh=>?_⟩|refine aX ?_|fail
 refine rr (h2:=?_)
 simp only [B8,A7,A0,↓A3,seval]
 rw [hp,hr]
 rfl
end Go.Proofs.YtakohhkgeeoniaaGreat
end
section
namespace Go.Proofs.YtakohhkgeeoniaaGreat
open Go.ChangeShapes Go.WideShapes Go.ChangeAt Go.RowKit Go.Bx
set_option maxRecDepth 100000
theorem Ja (os:Os) (started:os.Started) (H:Type) (enc:TypeId×Value→H) :
  ReturnsInHanded {} Tryz.checked os 3 .any (Rows.topClaimsWorthSpec.pre6 enc Tryz.prog Tryz.f3 Rows.topClaimsWorthRow.domain false) (Rows.topClaimsWorthSpec.post enc Tryz.prog Tryz.f3 false true false false):=by
 refine returnsInHanded_of_change (C:=Tryz.checked) Tryz.own started (by kernel_rfl) Tryz.func3
  (ChangeSpec.witness6 (enc:=enc) (C:=Tryz.checked) false ⟨#[],#[.agg #[.slice none 0 0,.slice none 0 0],.int .i64 0],[]⟩ 8 (by kernel_rfl) (by kernel_rfl) (by kernel_rfl) (by kernel_rfl)) ?_
 intro W base args ds gs before hval hW _ _
 refine bw (tb:=4) Tryz.laidOut (by kernel_rfl) (by kernel_rfl) Tryz.underlying4 rfl ?_ ?_ W base args ds gs before hval hW
 ·intro ds hd
  match ds,hd with
  |[_,_],_=>rfl
 ·intro W base args ds p hval hA
  rw [show Tryz.f3.params.toList=[27,3] by kernel_rfl] at hA
  obtain ⟨v0,v1,d0,d1,p0,p1,rfl,rfl,_,h0,h1⟩:=trodAll_two hA
  obtain ⟨j,jk,r0⟩:=Rw.agg (by kernel_rfl) (hval 0 27 v0 rfl rfl) h0
  obtain ⟨o,ok,r1⟩:=Ak.cell (by kernel_rfl) (hval 1 3 v1 rfl rfl) h1
  exact ⟨[.ag [.d (C5 j.1),.d (Dy j.2)],.d (.int .i64 o)],rfl,rel2 r0 r1,lWorth sAlive j.1 j.2 o jk⟩
theorem topClaimsWorth_holds:Rows.TopClaimsWorthSaid:=
 OpenClaim.holds_of_wide 3 Tryz.f3 rfl rfl rfl rfl rfl rfl rfl ⟨rfl,rfl,rfl,rfl,rfl⟩ rfl rfl rfl rfl rfl (by kernel_rfl) Tryz.func3 (by kernel_rfl)
  (of_decide_eq_true (by kernel_rfl)) (by unfold Func.isWrapper;first|(rw [if_pos (by decide +kernel)];kernel_rfl)|(rw [if_neg (by decide +kernel)];exact ⟨rfl,rfl⟩))
  (λos started H enc _=>Ja os started H enc)
end Go.Proofs.YtakohhkgeeoniaaGreat
end
