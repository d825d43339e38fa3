import Derived.Test.YtmccbkekpjgdbaaGreatXA7
set_option linter.unusedSimpArgs false
set_option linter.unusedVariables false
section
namespace Go.Proofs.YtmccbkekpjgdbaaGreat
open Go.Bx
set_option maxRecDepth 10000
structure Sl where
 sf:Int
 st:Int
 on:Bool
 rk:Rk
 cv:List Cv
 yr:Int
instance:Inhabited Sl:=⟨⟨0,0,false,default,[],0⟩⟩
def cSl (s:Sl):List V:=[.d (.int .i64 s.sf),.d (.int .i64 s.st),.d (.bool s.on),.d (.int .i64 s.rk.kd),.d (.int .i64 s.rk.va),.d (.int .i64 s.rk.ag),.d (.int .i64 s.rk.zo),.d (slC s.cv),.d (.int .i64 s.yr)]
def vSl (s:Sl):V:=.ag (cSl s)
def dSl (s:Sl):List D:=[.int .i64 s.sf,.int .i64 s.st,.bool s.on,.int .i64 s.rk.kd,.int .i64 s.rk.va,.int .i64 s.rk.ag,.int .i64 s.rk.zo,slC s.cv,.int .i64 s.yr]
def slS (l:List Sl):D:=.sl false 9 l.length (fun i=>dSl (l.getD i default))
def eqCv (a b:Cv):Bool:=(a.pe == b.pe)&&((a.li == b.li)&&((a.ag == b.ag)&&((a.de == b.de)&&(a.sh == b.sh))))
theorem eqCv_iff {a b:Cv}:eqCv a b=true↔a=b:=by
 obtain ⟨a1,a2,a3,a4,a5⟩:=a
 obtain ⟨b1,b2,b3,b4,b5⟩:=b
 simp [eqCv,and_assoc]
def eqRk (a b:Rk):Bool:=(a.kd == b.kd)&&((a.va == b.va)&&((a.ag == b.ag)&&(a.zo == b.zo)))
theorem eqRk_iff {a b:Rk}:eqRk a b=true↔a=b:=by
 obtain ⟨a1,a2,a3,a4⟩:=a
 obtain ⟨b1,b2,b3,b4⟩:=b
 simp [eqRk,and_assoc]
theorem sAlike (a b:List Cv) (ha:a.length≤9223372036854775806):Ctr Tryz.prog 120 [.d (slC a),.d (slC b)] [] (.d (.bool (decide (a=b)))) [] []:=by
 by_cases hl:a.length=b.length
 ·have d0:(((a.length:Int) != (b.length:Int)))=false:=by rw [bne_eq_false_iff_eq];omega
  refine qP Tryz.func120 fun c hP hfn=>?_;simp only [slC,d0,vcd,↓vcp,seval]
  repeat' first|refine ⟨fun h=>?_,fun h=>?_⟩|refine aX ?_|fail
  refine vcC.loop (X:=Nat) (fun k=>⟨[(1,.d (slC b)),(12,.d (slC a)),(13,.d (.int .i64 a.length)),(14,.d (.int .i64 k))],[],[]⟩)
   (fun k=>k≤a.length∧∀ j,j<k→a.getD j default=b.getD j default) (fun k=>a.length-k) 0 ⟨Nat.zero_le _,fun j hj=>absurd hj (Nat.not_lt_zero j)⟩ (Wk.of _ hfn rfl (by simp only [slC,enb,vcd,↓vcp,seval]) (by simp only [enb,vcd,↓vcp,seval])) ?_
  rintro k ⟨hk,he⟩
  by_cases hlt:k<a.length
  ·obtain ⟨x,hd,hg,-,-⟩:=drop_at hlt
   obtain ⟨y,hd2,hg2,-,-⟩:=drop_at (l:=b) (k:=k) (by omega)
   have b0:decide ((k:Int)<(a.length:Int))=true:=decide_eq_true (by omega)
   have ewk:IntKind.i64.wrap ((k:Int)+1)=((k+1:Nat):Int):=wS (by omega)
   simp only [slC,hg,hg2,b0,ewk,vcd,↓vcp,seval]
   repeat' first|refine ⟨fun h=>?_,fun h=>?_⟩|refine aX ?_|fail
   ·have hx:eqCv x y=false:=by rw [eqCv,←Bool.not_eq_true'];exact h
    have:a≠b:=by
     intro e
     rw [eqCv_iff.2 (by rw [←hg default,←hg2 default,e])] at hx
     exact absurd hx (by decide)
    (refine rq ?_;first|exact ⟨⟩|simp [this])
   ·have hx:x=y:=eqCv_iff.1 (by rw [eqCv,←Bool.not_eq_false'];exact h)
    refine lopK.on (k+1) ⟨hlt,fun j hj=>?_⟩ (by omega) (Wk.of _ hfn rfl (by simp only [enb,vcd,↓vcp,seval]) (by simp only [enb,vcd,↓vcp,seval]))
    rcases Nat.lt_succ_iff_lt_or_eq.1 hj with h1|h1
    ·exact he j h1
    ·rw [h1,hg,hg2,hx]
  ·have b0:decide ((k:Int)<(a.length:Int))=false:=decide_eq_false (by omega)
   have:a=b:=by
    apply List.ext_getElem hl
    intro j h1 h2
    have:=he j (by omega)
    simpa [List.getD_eq_getElem?_getD,h1,h2] using this
   simp only [slC,b0,vcd,↓vcp,seval]
   repeat' first|refine ⟨fun h=>?_,fun h=>?_⟩|refine aX ?_|fail
   (refine rq ?_;first|exact ⟨⟩|simp [this])
 ·have d0:(((a.length:Int) != (b.length:Int)))=true:=by rw [bne_iff_ne];omega
  have:a≠b:=fun e=>hl (by rw [e])
  refine qP Tryz.func120 fun c hP hfn=>?_;simp only [slC,d0,vcd,↓vcp,seval]
  repeat' first|refine ⟨fun h=>?_,fun h=>?_⟩|refine aX ?_|fail
  (refine rq ?_;first|exact ⟨⟩|simp [this])
def holdsS (a b:Sl):Bool:=(a.on == b.on)&&eqRk a.rk b.rk&&decide (a.cv=b.cv)
theorem sHolds (a b:Sl) (ha:a.cv.length≤9223372036854775806):Ctr Tryz.prog 71 [vSl a,vSl b] [] (.d (.bool (holdsS a b))) [] []:=by
 have ca:=sAlike a.cv b.cv ha
 simp only [slC] at ca
 refine qP Tryz.func71 fun c hP hfn=>?_;simp only [vSl,cSl,slC,vcd,↓vcp,seval]
 repeat' first|(refine tq hP (h:=⟨_,fun _=>by exact ca,?_⟩);try simp only [vcd,↓vcp,seval])|refine ⟨fun h=>?_,fun h=>?_⟩|refine aX ?_|fail
 (refine rq ?_;first|exact ⟨⟩|simp [holdsS,eqRk])
end Go.Proofs.YtmccbkekpjgdbaaGreat
end
section
namespace Go.Proofs.YtmccbkekpjgdbaaGreat
open Go.Bx
def moneyB (v:Int):Bool:=decide (v≥-4000000000000000000)&&decide (v≤4000000000000000000)
def stG:Int→Int→List (Int×Int)→Bool
 |_,_,[]=>true
 |day,val,(d,v)::r=>!(decide (d≤day) || decide (d>292194) || (v == val) || !(moneyB v))&&stG d v r
def valG:Int→List (Int×Int)→Int→Int
 |cur,[],_=>cur
 |cur,(d,v)::r,day=>if d≤day then valG v r day else cur
def valS (P:List (Int×Int)) (day:Int):Int:=valG 0 P day
def pieG (f:Int→Int) (to:Int):Int→List Int→List ((Int×Int)×Int)
 |fr,[]=>[((fr,to),f fr)]
 |fr,d::r=>if d≤fr∨d≥to then pieG f to fr r else ((fr,d),f fr)::pieG f to d r
def sumG:Int→Int→List ((Int×Int)×Int)→Int×Int
 |sum,_,[]=>(sum,0)
 |sum,all,((p,q),v)::r=>if max v (-v)>(4000000000000000000-all) / (q-p) then (0,5) else sumG (sum+(q-p)*v) (all+(q-p)*max v (-v)) r
def fullB (a b:Int):Bool:=decide (a≥1)&&decide (a<b)&&decide (b≤292195)
def sumS (P:List (Int×Int)) (a b:Int):Int×Int:=if stG 0 0 P&&fullB a b then sumG 0 0 (pieG (valS P) b a (P.map (·.1))) else (0,1)
def dSum (g:Int→Int):Int→Nat→Int
 |_,0=>0
 |a,n+1=>g a+dSum g (a+1) n
theorem dSum_add (g:Int→Int):∀ (m n:Nat) (a:Int),dSum g a (m+n)=dSum g a m+dSum g (a+m) n
 |0,n,a=>by simp [dSum]
 |m+1,n,a=>by
  have e:a+((m+1:Nat):Int)=a+1+(m:Int):=by omega
  rw [show m+1+n=(m+n)+1 by omega,dSum,dSum,dSum_add g m n (a+1),e,Int.add_assoc (g a)]
theorem dSum_const {g:Int→Int} {v:Int}:∀ (n:Nat) (a:Int),(∀ d,a≤d→d<a+n→g d=v)→dSum g a n=n*v
 |0,a,_=>by simp [dSum]
 |n+1,a,h=>by
  rw [dSum,dSum_const n (a+1) (fun d h1 h2=>h d (by omega) (by omega)),h a (by omega) (by omega)]
  rw [show ((n+1:Nat):Int)=1+(n:Int) by omega,Int.add_mul,Int.one_mul]
theorem dSum_nonneg {g:Int→Int}:∀ (n:Nat) (a:Int),(∀ d,a≤d→d<a+n→0≤g d)→0≤dSum g a n
 |0,a,_=>Int.le_refl _
 |n+1,a,h=>by
  have h1:=h a (by omega) (by omega)
  have h2:=dSum_nonneg n (a+1) (fun d h1 h2=>h d (by omega) (by omega))
  rw [dSum];omega
theorem stG_iff:∀ {P:List (Int×Int)} {day val:Int},stG day val P=true→(∀ p,p∈P→day<p.1∧p.1≤292194∧-4000000000000000000≤p.2∧p.2≤4000000000000000000)∧P.Pairwise (fun a b=>a.1<b.1)
 |[],_,_,_=>⟨fun p hp=>by simp at hp,List.Pairwise.nil⟩
 |(d,v)::r,day,val,h=>by
  simp only [stG,moneyB,Bool.and_eq_true,Bool.not_eq_true',Bool.or_eq_false_iff,decide_eq_false_iff_not] at h
  obtain ⟨⟨⟨⟨h1,h2⟩,h3⟩,h4⟩,h5⟩:=h
  obtain ⟨i1,i2⟩:=stG_iff h5
  have hm:-4000000000000000000≤v∧v≤4000000000000000000:=by simpa using h4
  refine ⟨fun p hp=>?_,List.pairwise_cons.2 ⟨fun p hp=>(i1 p hp).1,i2⟩⟩
  rcases List.mem_cons.1 hp with rfl|hp
  ·exact ⟨by simp only;omega,by simp only;omega,hm⟩
  ·have:=i1 p hp;exact ⟨by omega,this.2⟩
theorem valG_mem:∀ {P:List (Int×Int)} {cur day:Int},valG cur P day=cur∨∃ p,p∈P∧valG cur P day=p.2
 |[],_,_=>.inl rfl
 |(d,v)::r,cur,day=>by
  rw [valG]
  split
  ·rcases valG_mem (P:=r) (cur:=v) (day:=day) with h|⟨p,h1,h2⟩
   ·exact .inr ⟨(d,v),by simp,h⟩
   ·exact .inr ⟨p,by simp [h1],h2⟩
  ·exact .inl rfl
theorem valG_same:∀ {P:List (Int×Int)} {cur a b:Int},a≤b→(∀ p,p∈P→p.1≤a∨b<p.1)→valG cur P b=valG cur P a
 |[],_,_,_,_,_=>rfl
 |(d,v)::r,cur,a,b,hab,h=>by
  have h1:=h (d,v) (by simp)
  simp only at h1
  rw [valG,valG]
  rcases h1 with h1|h1
  ·rw [if_pos (by omega),if_pos h1,valG_same hab (fun p hp=>h p (by simp [hp]))]
  ·rw [if_neg (by omega),if_neg (by omega)]
theorem valG_at:∀ {P:List (Int×Int)} {cur day:Int} (k:Nat),k≤P.length→(∀ j,j<k→(P.getD j (0,0)).1≤day)→(∀ j,k≤j→j<P.length→day<(P.getD j (0,0)).1)→valG cur P day=if k=0 then cur else (P.getD (k-1) (0,0)).2
 |[],cur,day,k,hk,_,_=>by simp at hk;subst hk;rfl
 |(d,v)::r,cur,day,0,hk,h1,h2=>by
  have:=h2 0 (Nat.le_refl _) (by simp)
  rw [valG,if_neg (by simpa using this)];rfl
 |(d,v)::r,cur,day,k+1,hk,h1,h2=>by
  have:=h1 0 (by omega)
  rw [valG,if_pos (by simpa using this),valG_at k (by simpa using hk) (fun j hj=>by simpa using h1 (j+1) (by omega)) (fun j hj hl=>by simpa using h2 (j+1) (by omega) (by simpa using hl))]
  cases k with
  |zero=>simp
  |succ k=>simp
inductive Cut (g:Int→Int):Int→Int→List ((Int×Int)×Int)→Prop
 |nil (a:Int):Cut g a a []
 |cons {a b c:Int} {l:List ((Int×Int)×Int)} (h:a<b) (hg:∀ d,a≤d→d<b→g d=g a) (hl:Cut g b c l):Cut g a c (((a,b),g a)::l)
theorem pieG_cut {P:List (Int×Int)} {to:Int}:∀ {r:List Int} {fr:Int},fr<to→r.Pairwise (·<·)→(∀ d,d∈P.map (·.1)→d≤fr∨d∈r)→Cut (valS P) fr to (pieG (valS P) to fr r)
 |[],fr,h,_,hr=>by
  refine .cons h (fun d h1 h2=>valG_same h1 fun p hp=>?_) (.nil _)
  rcases hr p.1 (List.mem_map.2 ⟨p,hp,rfl⟩) with h3|h3
  ·exact .inl h3
  ·simp at h3
 |d::r,fr,h,hp,hr=>by
  obtain ⟨p1,p2⟩:=List.pairwise_cons.1 hp
  rw [pieG]
  split
  ·rename_i h3
   rcases h3 with h3|h3
   ·refine pieG_cut h p2 (fun x hx=>?_)
    rcases hr x hx with h4|h4
    ·exact .inl h4
    ·rcases List.mem_cons.1 h4 with rfl|h4
     ·exact .inl h3
     ·exact .inr h4
   ·
    have key:∀ (r':List Int),(∀ x,x∈r'→x≥to)→pieG (valS P) to fr r'=[((fr,to),valS P fr)]:=by
     intro r'
     induction r' with
     |nil=>intro _;rfl
     |cons x r' ih=>intro hx;rw [pieG,if_pos (.inr (hx x (by simp))),ih fun y hy=>hx y (by simp [hy])]
    rw [key r fun x hx=>by have:=p1 x hx;omega]
    refine .cons h (fun x h1 h2=>valG_same h1 fun p hp=>?_) (.nil _)
    rcases hr p.1 (List.mem_map.2 ⟨p,hp,rfl⟩) with h4|h4
    ·exact .inl h4
    ·rcases List.mem_cons.1 h4 with h5|h4
     ·exact .inr (by omega)
     ·have:=p1 _ h4;exact .inr (by omega)
  ·rename_i h3
   refine .cons (by omega) (fun x h1 h2=>valG_same h1 fun p hp=>?_) (pieG_cut (by omega) p2 fun x hx=>?_)
   ·rcases hr p.1 (List.mem_map.2 ⟨p,hp,rfl⟩) with h4|h4
    ·exact .inl h4
    ·rcases List.mem_cons.1 h4 with h5|h4
     ·exact .inr (by omega)
     ·have:=p1 _ h4;exact .inr (by omega)
   ·rcases hr x hx with h4|h4
    ·exact .inl (by omega)
    ·rcases List.mem_cons.1 h4 with rfl|h4
     ·exact .inl (Int.le_refl _)
     ·exact .inr h4
theorem Cut.le {g:Int→Int} {a b:Int} {l:List ((Int×Int)×Int)} (h:Cut g a b l):a≤b:=by
 induction h with
 |nil=>exact Int.le_refl _
 |cons h _ _ ih=>omega
theorem sumG_cut {g:Int→Int} {a b:Int} {l:List ((Int×Int)×Int)} (h:Cut g a b l):∀ (sum all:Int),0≤all→all≤4000000000000000000 →
  sumG sum all l=if all+dSum (fun d=>max (g d) (-(g d))) a (b-a).toNat>4000000000000000000 then (0,5) else (sum+dSum g a (b-a).toNat,0):=by
 induction h with
 |nil a=>intro sum all h1 h2;simp [sumG,dSum];omega
 |@cons a b c l hab hg hl ih =>
  intro sum all h1 h2
  have hbc:=hl.le
  obtain ⟨n,hn⟩:∃ n:Nat,b-a=(n:Int):=⟨(b-a).toNat,by omega⟩
  obtain ⟨m,hm⟩:∃ m:Nat,c-b=(m:Int):=⟨(c-b).toNat,by omega⟩
  have e1:(c-a).toNat=n+m:=by omega
  have e2:(c-b).toNat=m:=by omega
  have eb:b=a+(n:Int):=by omega
  have s1:dSum g a n=n*g a:=dSum_const n a fun d h3 h4=>hg d h3 (by omega)
  have s2:dSum (fun d=>max (g d) (-(g d))) a n=n*max (g a) (-(g a)):=dSum_const n a fun d h3 h4=>by rw [hg d h3 (by omega)]
  have s3:0≤dSum (fun d=>max (g d) (-(g d))) b m:=dSum_nonneg m b fun d _ _=>by omega
  have hn0:0<(n:Int):=by omega
  rw [e2] at ih
  rw [e1,dSum_add,dSum_add,s1,s2,←eb,sumG,hn]
  have hq:max (g a) (-(g a))>(4000000000000000000-all) / (n:Int)↔all+n*max (g a) (-(g a))>4000000000000000000:=by
   have:=Int.le_ediv_iff_mul_le (a:=max (g a) (-(g a))) (b:=4000000000000000000-all) hn0
   rw [Int.mul_comm] at this
   omega
  have hpos:0≤(n:Int)*max (g a) (-(g a)):=Int.mul_nonneg (by omega) (by omega)
  by_cases hb:max (g a) (-(g a))>(4000000000000000000-all) / (n:Int)
  ·rw [if_pos hb,if_pos (by have:=hq.1 hb;omega)]
  ·have hb':=mt hq.2 hb
   rw [if_neg hb,ih _ _ (by omega) (by omega)]
   have e3:all+↑n*max (g a) (-g a)+dSum (fun d=>max (g d) (-g d)) b m=all+(↑n*max (g a) (-g a)+dSum (fun d=>max (g d) (-g d)) b m):=by omega
   have e4:sum+↑n*g a+dSum g b m=sum+(↑n*g a+dSum g b m):=by omega
   rw [e3,e4]
theorem sumS_eq (P:List (Int×Int)) (a b:Int):sumS P a b=if stG 0 0 P&&fullB a b then
  (if dSum (fun d=>max (valS P d) (-(valS P d))) a (b-a).toNat>4000000000000000000 then (0,5) else (dSum (valS P) a (b-a).toNat,0)) else (0,1):=by
 unfold sumS
 split
 ·rename_i h
  simp only [Bool.and_eq_true,fullB,decide_eq_true_eq] at h
  obtain ⟨-,i2⟩:=stG_iff h.1
  rw [sumG_cut (pieG_cut (by omega) (List.pairwise_map.2 i2) fun d hd=>.inr hd) 0 0 (by omega) (by omega),Int.zero_add,Int.zero_add]
 ·rfl
end Go.Proofs.YtmccbkekpjgdbaaGreat
end
section
namespace Go.Proofs.YtmccbkekpjgdbaaGreat
open Go.Bx
theorem stG_snoc:∀ {P:List (Int×Int)} {d0 v0 d v:Int},stG d0 v0 (P++[(d,v)])=(stG d0 v0 P&&!(decide (d≤(P.getD (P.length-1) (d0,v0)).1) || decide (d>292194) || (v == (P.getD (P.length-1) (d0,v0)).2) || !(moneyB v)))
 |[],d0,v0,d,v=>by simp [stG]
 |(a,b)::P,d0,v0,d,v=>by
  rw [List.cons_append,stG,stG,stG_snoc (P:=P),Bool.and_assoc]
  have e:((a,b)::P).getD (((a,b)::P).length-1) (d0,v0)=P.getD (P.length-1) (a,b):=by
   cases P with
   |nil=>rfl
   |cons p P=>simp [List.getD_eq_getElem?_getD]
  rw [e]
theorem valG_snoc:∀ {P:List (Int×Int)} {cur d v day:Int},(∀ p,p∈P→p.1<d)→valG cur (P++[(d,v)]) day=if d≤day then v else valG cur P day
 |[],cur,d,v,day,_=>by simp [valG]
 |(a,b)::P,cur,d,v,day,h=>by
  have h1:=h (a,b) (by simp)
  simp only at h1
  rw [List.cons_append,valG,valG,valG_snoc (fun p hp=>h p (by simp [hp]))]
  by_cases h2:d≤day
  ·rw [if_pos h2,if_pos h2,if_pos (by omega)]
  ·rw [if_neg h2,if_neg h2]
def popP (P:List (Int×Int)) (day:Int):List (Int×Int):=if 0<P.length∧(P.getD (P.length-1) (0,0)).1=day then P.take (P.length-1) else P
def pushP (P:List (Int×Int)) (day v:Int):List (Int×Int):=if v≠(P.getD (P.length-1) (0,0)).2∧day≤292194 then P++[(day,v)] else P
def addP (P:List (Int×Int)) (day v:Int):List (Int×Int):=pushP (popP P day) day v
theorem snoc_or {α:Type} (l:List α):l=[]∨∃ m x,l=m++[x]:=by
 rcases List.eq_nil_or_concat l with h|⟨m,x,h⟩
 ·exact .inl h
 ·exact .inr ⟨m,x,by simpa using h⟩
theorem pushP_ok {P:List (Int×Int)} {day v:Int} (h:stG 0 0 P=true) (hd:∀ p,p∈P→p.1<day) (h1:1≤day) (hv:moneyB v=true) :
  stG 0 0 (pushP P day v)=true∧(∀ p,p∈pushP P day v→p.1≤day)∧∀ d,d≤292194→valS (pushP P day v) d=if d<day then valS P d else v:=by
 have hl:(P.getD (P.length-1) (0,0)).1<day:=by
  rcases snoc_or P with rfl|⟨m,x,rfl⟩
  ·simp;omega
  ·simpa [List.getD_eq_getElem?_getD] using hd x (by simp)
 have hlast:∀ d,day≤d→valS P d=(P.getD (P.length-1) (0,0)).2:=fun d h2=>by
  rcases snoc_or P with rfl|⟨m,x,rfl⟩
  ·rfl
  ·have hx:=hd x (by simp)
   have hm:∀ p,p∈m→p.1<x.1:=fun p hp=>(List.pairwise_append.1 (stG_iff h).2).2.2 p hp x (by simp)
   have:=valG_snoc (P:=m) (cur:=0) (d:=x.1) (v:=x.2) (day:=d) hm
   rw [valS,this,if_pos (by omega)]
   simp [List.getD_eq_getElem?_getD]
 unfold pushP
 split
 ·rename_i hc
  refine ⟨?_,fun p hp=>?_,fun d h2=>?_⟩
  ·rw [stG_snoc,h,hv]
   have a1:decide (day≤(P.getD (P.length-1) (0,0)).1)=false:=decide_eq_false (by omega)
   have a2:decide (day>292194)=false:=decide_eq_false (by omega)
   have a3:(v == (P.getD (P.length-1) (0,0)).2)=false:=by simpa using hc.1
   rw [a1,a2,a3];rfl
  ·rcases List.mem_append.1 hp with h3|h3
   ·have:=hd p h3;omega
   ·simp at h3;subst h3;exact Int.le_refl _
  ·rw [valS,valG_snoc hd]
   by_cases h3:d<day
   ·rw [if_pos h3,if_neg (by omega)];rfl
   ·rw [if_neg h3,if_pos (by omega)]
 ·rename_i hc
  refine ⟨h,fun p hp=>by have:=hd p hp;omega,fun d h2=>?_⟩
  by_cases h3:d<day
  ·rw [if_pos h3]
  ·rw [if_neg h3,hlast d (by omega)]
   by_cases h4:v=(P.getD (P.length-1) (0,0)).2
   ·exact h4.symm
   ·exact absurd ⟨h4,by omega⟩ hc
theorem popP_ok {P:List (Int×Int)} {day:Int} (h:stG 0 0 P=true) (hd:∀ p,p∈P→p.1≤day):stG 0 0 (popP P day)=true∧(∀ p,p∈popP P day→p.1<day)∧∀ d,d<day→valS (popP P day) d=valS P d:=by
 rcases snoc_or P with rfl|⟨m,x,rfl⟩
 ·exact ⟨h,fun p hp=>by simp [popP] at hp,fun d _=>rfl⟩
 ·have hm:∀ p,p∈m→p.1<x.1:=fun p hp=>(List.pairwise_append.1 (stG_iff h).2).2.2 p hp x (by simp)
  have hx:=hd x (by simp)
  have e1:((m++[x]).getD ((m++[x]).length-1) (0,0))=x:=by simp [List.getD_eq_getElem?_getD]
  have e2:(m++[x]).take ((m++[x]).length-1)=m:=by simp
  rw [popP,e1,e2]
  split
  ·rename_i hc
   have:=stG_snoc (P:=m) (d0:=0) (v0:=0) (d:=x.1) (v:=x.2)
   rw [h] at this
   refine ⟨?_,fun p hp=>by have:=hm p hp;omega,fun d h2=>?_⟩
   ·simp only [Bool.true_eq,Bool.and_eq_true] at this
    exact this.1
   ·rw [valS,valS,valG_snoc hm,if_neg (by omega)]
  ·rename_i hc
   have hne:x.1≠day:=fun e=>hc ⟨by simp,e⟩
   refine ⟨h,fun p hp=>?_,fun d _=>rfl⟩
   rcases List.mem_append.1 hp with h3|h3
   ·have:=hm p h3;omega
   ·simp at h3;subst h3;omega
theorem addP_ok {P:List (Int×Int)} {day v:Int} (h:stG 0 0 P=true) (hd:∀ p,p∈P→p.1≤day) (h1:1≤day) (hv:moneyB v=true) :
  stG 0 0 (addP P day v)=true∧(∀ p,p∈addP P day v→p.1≤day)∧∀ d,d≤292194→valS (addP P day v) d=if d<day then valS P d else v:=by
 obtain ⟨a1,a2,a3⟩:=popP_ok h hd
 obtain ⟨b1,b2,b3⟩:=pushP_ok a1 a2 h1 hv
 refine ⟨b1,b2,fun d h2=>?_⟩
 rw [addP,b3 d h2]
 split
 ·rename_i h3;exact a3 d h3
 ·rfl
def fullSl (s:Sl) (e:Int):Bool:=(decide (s.sf≥e)&&(decide (s.sf<s.st)&&decide (s.st≤292195)))&&(decide (s.yr≥0)&&decide (s.yr≤4000000000000000000))
def curG:List (Int×Int)→Int→List Sl→Option (List (Int×Int))
 |P,_,[]=>some P
 |P,e,s::r=>if fullSl s e=true then curG (addP (addP P s.sf s.yr) s.st 0) s.st r else none
def curS (l:List Sl):Option (List (Int×Int)):=if l.length>2000 then none else curG [] 1 l
def yrAt (l:List Sl) (d:Int):Int:=match l.find? (fun s=>decide (s.sf≤d)&&decide (d<s.st)) with|some s=>s.yr|none=>0
theorem fullSl_iff {s:Sl} {e:Int}:fullSl s e=true↔e≤s.sf∧s.sf<s.st∧s.st≤292195∧0≤s.yr∧s.yr≤4000000000000000000:=by
 simp only [fullSl,Bool.and_eq_true,decide_eq_true_eq];omega
theorem yrAt_cons (s:Sl) (l:List Sl) (d:Int):yrAt (s::l) d=if s.sf≤d∧d<s.st then s.yr else yrAt l d:=by
 unfold yrAt
 rw [List.find?_cons]
 by_cases h:s.sf≤d∧d<s.st
 ·rw [if_pos h,decide_eq_true h.1,decide_eq_true h.2];rfl
 ·have e1:(decide (s.sf≤d)&&decide (d<s.st))=false:=by
   rw [Bool.and_eq_false_iff,decide_eq_false_iff_not,decide_eq_false_iff_not];omega
  rw [if_neg h,e1]
inductive Run:Int→List Sl→Prop
 |nil (e:Int):Run e []
 |cons {e:Int} {s:Sl} {l:List Sl} (h:fullSl s e=true) (hl:Run s.st l):Run e (s::l)
theorem Run.yr {e d:Int} {l:List Sl} (h:Run e l) (hd:d<e):yrAt l d=0:=by
 induction h generalizing d with
 |nil=>rfl
 |cons h _ ih =>
  have:=fullSl_iff.1 h
  rw [yrAt_cons,if_neg (by omega)]
  exact ih (by omega)
theorem curG_ok:∀ {l:List Sl} {P Q:List (Int×Int)} {e:Int},curG P e l=some Q→1≤e→stG 0 0 P=true→(∀ p,p∈P→p.1≤e)→(∀ d,e≤d→d≤292194→valS P d=0) →
  Run e l∧stG 0 0 Q=true∧∀ d,d≤292194→valS Q d=if d<e then valS P d else yrAt l d
 |[],P,Q,e,h,h1,h2,h3,h4=>by
  injection h with h;subst h
  refine ⟨.nil _,h2,fun d hd=>?_⟩
  split
  ·rfl
  ·exact h4 d (by omega) hd
 |s::l,P,Q,e,h,h1,h2,h3,h4=>by
  rw [curG] at h
  split at h
  ·rename_i hf
   have hf':=fullSl_iff.1 hf
   obtain ⟨a1,a2,a3⟩:=addP_ok (v:=s.yr) h2 (fun p hp=>by have:=h3 p hp;omega:∀ p,p∈P→p.1≤s.sf) (by omega) (by simp only [moneyB,Bool.and_eq_true,decide_eq_true_eq];omega)
   obtain ⟨b1,b2,b3⟩:=addP_ok (v:=0) a1 (fun p hp=>by have:=a2 p hp;omega:∀ p,p∈addP P s.sf s.yr→p.1≤s.st) (by omega) rfl
   obtain ⟨c1,c2,c3⟩:=curG_ok h (by omega) b1 b2 (fun d g1 g2=>by rw [b3 d g2,if_neg (by omega)])
   refine ⟨.cons hf c1,c2,fun d hd=>?_⟩
   rw [c3 d hd,b3 d hd,a3 d hd,yrAt_cons]
   by_cases g1:d<e
   ·rw [if_pos (by omega),if_pos (by omega),if_pos (by omega),if_pos g1]
   ·rw [if_neg g1]
    by_cases g2:d<s.sf
    ·rw [if_pos (by omega),if_pos (by omega),if_pos g2,if_neg (by omega),h4 d (by omega) hd]
     exact (c1.yr (by omega)).symm
    ·by_cases g3:d<s.st
     ·rw [if_pos g3,if_pos g3,if_neg g2,if_pos ⟨by omega,g3⟩]
     ·rw [if_neg g3,if_neg (by omega)]
  ·cases h
theorem curS_ok {l:List Sl} {P:List (Int×Int)} (h:curS l=some P):Run 1 l∧l.length≤2000∧stG 0 0 P=true∧∀ d,1≤d→d≤292194→valS P d=yrAt l d:=by
 unfold curS at h
 split at h
 ·cases h
 ·obtain ⟨h1,h2,h3⟩:=curG_ok h (by omega) rfl (fun p hp=>by simp at hp) (fun d _ _=>rfl)
  exact ⟨h1,by omega,h2,fun d g1 g2=>by rw [h3 d g2,if_neg (by omega)]⟩
end Go.Proofs.YtmccbkekpjgdbaaGreat
end
section
namespace Go.Proofs.YtmccbkekpjgdbaaGreat
open Go.Bx
def lastY (P:List (Int×Int)):Int:=(P.getD (P.length-1) (0,0)).2
def putY (P:List (Int×Int)) (d v:Int):List (Int×Int):=if v=lastY P then P else P++[(d,v)]
def curY (V:Int→Int) (D:List Int):List (Int×Int):=D.foldl (fun P d=>putY P d (V d)) []
def lastV (V:Int→Int) (D:List Int) (x:Int):Int:=match (D.filter fun d=>decide (d≤x)).getLast? with
 |some d=>V d
 |none=>0
theorem lastV_snoc (V:Int→Int) (A:List Int) (d x:Int):lastV V (A++[d]) x=if d≤x then V d else lastV V A x:=by
 unfold lastV
 rw [List.filter_append]
 by_cases h:d≤x
 ·rw [if_pos h];simp [h]
 ·rw [if_neg h];simp [h]
theorem curY_snoc (V:Int→Int) (A:List Int) (d:Int):curY V (A++[d])=putY (curY V A) d (V d):=by rw [curY,List.foldl_append];rfl
theorem valG_all {P:List (Int×Int)} {x:Int} (h:∀ p,p∈P→p.1≤x):valS P x=lastY P:=by
 have:=valG_at (P:=P) (cur:=0) (day:=x) P.length (Nat.le_refl _) (fun j hj=>by
  obtain ⟨p,-,hg,hm,-⟩:=drop_at hj
  rw [hg];exact h p hm) (fun j h1 h2=>by omega)
 rw [valS,this,lastY]
 cases P with
 |nil=>rfl
 |cons p P=>rw [if_neg (by simp)]
structure CurOk (V:Int→Int) (A:List Int) (P:List (Int×Int)):Prop where
 st:stG 0 0 P=true
 mem:∀ p,p∈P→p.1∈A
 val:∀ x,valS P x=lastV V A x
theorem curY_ok (V:Int→Int) (hV:∀ d,0≤V d∧V d≤4000000000000000000) (D:List Int) (hD:D.Pairwise (·<·)) (h1:∀ d,d∈D→1≤d∧d≤292194):∀ k,k≤D.length→CurOk V (D.take k) (curY V (D.take k))
 |0,_=>⟨rfl,fun p hp=>by simp [curY] at hp,fun x=>by simp [curY,lastV,valS,valG]⟩
 |k+1,hk=>by
  have ih:=curY_ok V hV D hD h1 k (by omega)
  obtain ⟨d,-,-,hm,hat⟩:=drop_at (show k<D.length by omega)
  have ht:D.take (k+1)=D.take k++[d]:=by rw [List.take_add_one,hat];rfl
  have hlt:∀ a,a∈D.take k→a<d:=by
   have:=hD.sublist (List.take_sublist (k+1) D)
   rw [ht,List.pairwise_append] at this
   exact fun a ha=>this.2.2 a ha d (by simp)
  have hPd:∀ p,p∈curY V (D.take k)→p.1<d:=fun p hp=>hlt _ (ih.mem p hp)
  have hdd:=h1 d hm
  have hvd:=hV d
  rw [ht,curY_snoc,putY]
  generalize curY V (D.take k)=P at *
  by_cases he:V d=lastY P
  ·rw [if_pos he]
   refine ⟨ih.st,fun p hp=>List.mem_append_left _ (ih.mem p hp),fun x=>?_⟩
   rw [lastV_snoc]
   by_cases hx:d≤x
   ·rw [if_pos hx,valG_all fun p hp=>by have:=hPd p hp;omega,he]
   ·rw [if_neg hx];exact ih.val x
  ·rw [if_neg he]
   refine ⟨?_,fun p hp=>?_,fun x=>?_⟩
   ·rw [stG_snoc,ih.st]
    have e1:decide (d≤(P.getD (P.length-1) (0,0)).1)=false:=decide_eq_false (by
     cases P with
     |nil=>simp;omega
     |cons p P =>
      obtain ⟨q,-,hg,hq,-⟩:=drop_at (l:=p::P) (k:=(p::P).length-1) (by simp)
      rw [hg];have:=hPd q hq;omega)
    have e2:decide (d>292194)=false:=decide_eq_false (by omega)
    have e3:(V d == (P.getD (P.length-1) (0,0)).2)=false:=by rw [beq_eq_false_iff_ne];exact he
    have e4:moneyB (V d)=true:=by simp only [moneyB,Bool.and_eq_true,decide_eq_true_eq];omega
    rw [e1,e2,e3,e4];rfl
   ·rcases List.mem_append.1 hp with hp|hp
    ·exact List.mem_append_left _ (ih.mem p hp)
    ·rw [List.mem_singleton.1 hp];simp
   ·rw [valS,valG_snoc hPd,lastV_snoc]
    by_cases hx:d≤x
    ·rw [if_pos hx,if_pos hx]
    ·rw [if_neg hx,if_neg hx];exact ih.val x
theorem lastV_eq {R:List (Nat×Int×Int)} {D:List Int} (hD:D.Pairwise (·<·)) (hR:∀ p,p∈R→p.2.1∈D) (x:Int):lastV (paidBy R) D x=paidBy R x:=by
 unfold lastV
 cases h:(D.filter fun d=>decide (d≤x)).getLast? with
 |none =>
  have h0:=List.getLast?_eq_none_iff.1 h
  have:R.filter (fun p=>decide (p.2.1≤x))=[]:=List.filter_eq_nil_iff.2 fun p hp=>by
   have:=List.filter_eq_nil_iff.1 h0 p.2.1 (hR p hp)
   simpa using this
  simp only [paidBy,this];rfl
 |some d =>
  obtain ⟨A,hA⟩:=List.getLast?_eq_some_iff.1 h
  have hd:d∈D∧d≤x:=by
   have:d∈D.filter fun d=>decide (d≤x):=by rw [hA];simp
   simpa using List.mem_filter.1 this
  have hs:(D.filter fun d=>decide (d≤x)).Pairwise (·<·):=hD.sublist List.filter_sublist
  rw [hA,List.pairwise_append] at hs
  simp only [paidBy]
  have e:R.filter (fun p=>decide (p.2.1≤d))=R.filter (fun p=>decide (p.2.1≤x)):=List.filter_congr fun p hp=>by
   have:decide (p.2.1≤d)=decide (p.2.1≤x):=by
    rw [decide_eq_decide]
    constructor
    ·intro h;omega
    ·intro h
     have hm:p.2.1∈A++[d]:=by rw [←hA];exact List.mem_filter.2 ⟨hR p hp,by simpa using h⟩
     rcases List.mem_append.1 hm with hm|hm
     ·have:=hs.2.2 p.2.1 hm d (by simp);omega
     ·rw [List.mem_singleton.1 hm];exact Int.le_refl _
   exact this
  rw [e]
end Go.Proofs.YtmccbkekpjgdbaaGreat
end
section
namespace Go.Proofs.YtmccbkekpjgdbaaGreat
open Go.Bx
abbrev Rw:=Int×Int×Int
def yrD (d:Int):Int:=(yN d.toNat:Nat)
def ahD (y:Int):Int:=(ahN y.toNat:Nat)
theorem yr_le {d y:Int} (h1:1≤d) (h2:d≤292194) (hy:1600≤y):yrD d≤y↔d≤ahD (y+1):=by
 obtain ⟨a,b,c,e⟩:=yN_spec (n:=d.toNat) (by omega) (by omega)
 unfold yrD ahD
 constructor
 ·intro h
  have:=ah_mono (a:=yN d.toNat+1) (b:=(y+1).toNat) (by omega) (by omega)
  omega
 ·intro h
  by_cases hc:yN d.toNat≤y.toNat
  ·omega
  ·have:=ah_mono (a:=(y+1).toNat) (b:=yN d.toNat) (by omega) (by omega)
   omega
theorem yr_mono {a b:Int} (h1:1≤a) (h:a≤b) (h2:b≤292194):yrD a≤yrD b:=by
 obtain ⟨p,-,-,q⟩:=yN_spec (n:=b.toNat) (by omega) (by omega)
 have h3:1600≤yrD b:=by unfold yrD;omega
 have:=(yr_le (d:=b) (y:=yrD b) (by omega) h2 h3).1 (Int.le_refl _)
 exact (yr_le h1 (by omega) h3).2 (by omega)
def inT' (fr:Int) (i:Nat) (j:Int) (x:Rw):Bool:=decide (yrD x.1=fr+i)&&decide (yrD x.2.1-yrD x.1≤j)
def cellT (fr:Int) (rows:List Rw) (i:Nat) (j:Int):Int:=((rows.filter (inT' fr i j)).map (·.2.2)).sum
theorem cellT_cons (fr:Int) (x:Rw) (r:List Rw) (i:Nat) (j:Int):cellT fr (x::r) i j=(if inT' fr i j x=true then x.2.2 else 0)+cellT fr r i j:=by
 rw [cellT,List.filter_cons]
 split
 ·simp [cellT]
 ·simp [cellT]
def sumR (f:Nat→Int):Nat→Int
 |0=>0
 |n+1=>sumR f n+f n
theorem sumR_add (f g:Nat→Int):∀ n,sumR (fun i=>f i+g i) n=sumR f n+sumR g n
 |0=>rfl
 |n+1=>by rw [sumR,sumR,sumR,sumR_add f g n];omega
theorem sumR_congr {f g:Nat→Int}:∀ n,(∀ i,i<n→f i=g i)→sumR f n=sumR g n
 |0,_=>rfl
 |n+1,h=>by rw [sumR,sumR,sumR_congr n fun i hi=>h i (by omega),h n (by omega)]
theorem sumR_zero:∀ n,sumR (fun _=>0) n=0
 |0=>rfl
 |n+1=>by rw [sumR,sumR_zero n];rfl
theorem sumR_one (a:Int) (k:Nat):∀ n,sumR (fun i=>if i=k then a else 0) n=if k<n then a else 0
 |0=>by rw [if_neg (by omega)];rfl
 |n+1=>by
  rw [sumR,sumR_one a k n]
  by_cases h:k<n
  ·rw [if_pos h,if_neg (by omega),if_pos (by omega)];omega
  ·rw [if_neg h]
   by_cases h2:n=k
   ·rw [if_pos h2,if_pos (by omega)];omega
   ·rw [if_neg h2,if_neg (by omega)];omega
def OkRw (fr:Int) (x:Rw):Prop:=1≤x.1∧x.1≤x.2.1∧x.2.1≤292194∧fr≤yrD x.1
theorem tri_diag {fr:Int} (hf:1601≤fr) (k:Nat):∀ rows:List Rw,(∀ x,x∈rows→OkRw fr x)→sumR (fun i=>cellT fr rows i ((k:Int)-i)) (k+1)=((rows.filter fun x=>decide (x.2.1≤ahD (fr+k+1))).map (·.2.2)).sum
 |[],_=>by
  have:(fun i:Nat=>cellT fr [] i ((k:Int)-i))=fun _=>0:=by funext i;rfl
  rw [this,sumR_zero];rfl
 |x::r,h=>by
  have ih:=tri_diag hf k r fun y hy=>h y (by simp [hy])
  obtain ⟨h1,h2,h3,h4⟩:=h x (by simp)
  have hm:=yr_mono h1 h2 h3
  have hl:=yr_le (d:=x.2.1) (y:=fr+k) (by omega) h3 (by omega)
  have e:(fun i:Nat=>cellT fr (x::r) i ((k:Int)-i))=fun i=>(if i=(yrD x.1-fr).toNat then (if yrD x.2.1≤fr+k then x.2.2 else 0) else 0)+cellT fr r i ((k:Int)-i):=by
   funext i
   rw [cellT_cons]
   congr 1
   by_cases hi:i=(yrD x.1-fr).toNat
   ·rw [if_pos hi]
    by_cases hc:yrD x.2.1≤fr+k
    ·rw [if_pos hc,if_pos]
     simp only [inT',Bool.and_eq_true,decide_eq_true_eq];omega
    ·rw [if_neg hc,if_neg]
     simp only [inT',Bool.and_eq_true,decide_eq_true_eq];omega
   ·rw [if_neg hi,if_neg]
    simp only [inT',Bool.and_eq_true,decide_eq_true_eq];omega
  rw [e,sumR_add,sumR_one,ih,List.filter_cons]
  by_cases hc:yrD x.2.1≤fr+k
  ·rw [if_pos hc,if_pos (by omega),if_pos (decide_eq_true (hl.1 hc)),List.map_cons,List.sum_cons]
  ·rw [if_neg hc,ite_self,if_neg (by simpa using fun h=>hc (hl.2 h))];omega
end Go.Proofs.YtmccbkekpjgdbaaGreat
end
section
namespace Go.Proofs.YtmccbkekpjgdbaaGreat
open Go.Bx
structure Qp where
 gr:Int
 sh:Int
 bc:Int
 op:Bool
def w64 (n:Int):Int:=IntKind.i64.wrap n
def stepQ (q:Qp) (a:Ac):Qp:=
 if a.kd=1 then { q with gr:=a.am } else if a.kd=2 then { q with sh:=w64 (q.sh+a.am) } else if a.kd=3 then { q with bc:=w64 (q.bc+a.am) }
 else if a.kd=4 then { q with op:=false } else if a.kd=5 then { q with op:=true } else q
def posQ (l:List Ac):Qp:=l.foldl stepQ ⟨0,0,0,true⟩
def wiB (n f t:Int):Bool:=decide (n≥f)&&decide (n≤t)
def mostA (a:Ac):Int:=if ((a.kd == 4) || (a.kd == 5))=true then 0 else 1000000000000000
def rightA (a:Ac):Bool:=wiB a.bk 1 292194&&wiB a.kd 1 5&&wiB a.am 0 (mostA a)
def lastA (c:Cm) (p:List Ac):Int:=match p.getLast? with
 |some a=>a.bk
 |none=>c.bk
def overA (q:Qp) (a:Ac):Bool:=(a.kd == 2)&&decide (a.am>IntKind.i64.wrap (1000000000000000-q.sh)) || (a.kd == 3)&&decide (a.am>IntKind.i64.wrap (1000000000000000-q.bc))
def putE (c:Cm) (p:List Ac) (a:Ac):Int:=
 if rightA a=false then 1 else if 2000≤p.length then 2 else if a.bk<lastA c p then 4 else if ((posQ p).op == (a.kd == 5))=true then 10 else if overA (posQ p) a=true then 5 else 0
def madeR (c:Cm):List Ac→List Ac→Bool
 |_,[]=>true
 |p,a::r=>decide (putE c p a=0)&&madeR c (p++[a]) r
def madeF (f:Fi):Bool:=madeR f.cl [] f.ac
theorem putE_ok {c:Cm} {p:List Ac} {a:Ac} (h:putE c p a=0):rightA a=true∧p.length<2000∧lastA c p≤a.bk∧overA (posQ p) a=false:=by
 unfold putE at h
 split at h
 ·cases h
 ·split at h
  ·cases h
  ·split at h
   ·cases h
   ·split at h
    ·cases h
    ·split at h
     ·cases h
     ·rename_i h1 h2 h3 h4 h5
      exact ⟨by simpa using h1,by omega,by omega,by simpa using h5⟩
theorem madeR_app {c:Cm}:∀ (A B p:List Ac),madeR c p (A++B)=(madeR c p A&&madeR c (p++A) B)
 |[],B,p=>by simp [madeR]
 |a::A,B,p=>by
  rw [List.cons_append,madeR,madeR,madeR_app A B,Bool.and_assoc,List.append_assoc];rfl
theorem madeR_snoc {c:Cm} {p A:List Ac} {a:Ac} (h:madeR c p (A++[a])=true):madeR c p A=true∧putE c (p++A) a=0:=by
 rw [madeR_app,Bool.and_eq_true] at h
 refine ⟨h.1,?_⟩
 have:=h.2
 simp only [madeR,Bool.and_true,decide_eq_true_eq] at this
 exact this
structure MadeOk (c:Cm) (l:List Ac):Prop where
 rt:∀ a,a∈l→rightA a=true
 bk:∀ a,a∈l→c.bk≤a.bk∧a.bk≤lastA c l
 lo:c.bk≤lastA c l
 srt:l.Pairwise (fun a b=>a.bk≤b.bk)
 sh:0≤(posQ l).sh∧(posQ l).sh≤1000000000000000
 bc:0≤(posQ l).bc∧(posQ l).bc≤1000000000000000
 eq:(posQ l).sh=((l.filter fun a=>decide (a.kd=2)).map (·.am)).sum
theorem rightA_iff {a:Ac}:rightA a=true↔(1≤a.bk∧a.bk≤292194)∧(1≤a.kd∧a.kd≤5)∧0≤a.am∧a.am≤mostA a:=by
 simp only [rightA,wiB,Bool.and_eq_true,decide_eq_true_eq,and_assoc,ge_iff_le]
theorem mostA_le (a:Ac):mostA a≤1000000000000000:=by unfold mostA;split<;>omega
theorem rightA_am {a:Ac} (h:rightA a=true):0≤a.am∧a.am≤1000000000000000:=by
 obtain ⟨-,-,h1,h2⟩:=rightA_iff.1 h
 have:=mostA_le a
 omega
theorem w64_in {n:Int} (h:-9223372036854775808≤n∧n≤9223372036854775807):w64 n=n:=wI (by omega)
theorem lastA_snoc (c:Cm) (l:List Ac) (a:Ac):lastA c (l++[a])=a.bk:=by simp [lastA]
theorem posQ_snoc (l:List Ac) (a:Ac):posQ (l++[a])=stepQ (posQ l) a:=by simp [posQ]
theorem made_ok (c:Cm):∀ (n:Nat) (l:List Ac),l.length=n→madeR c [] l=true→MadeOk c l
 |0,l,h,_=>by
  rw [List.length_eq_zero_iff] at h;subst h
  exact ⟨fun a ha=>by simp at ha,fun a ha=>by simp at ha,Int.le_refl _,List.Pairwise.nil,by simp [posQ],by simp [posQ],by simp [posQ]⟩
 |n+1,l,h,hm=>by
  obtain ⟨A,a,rfl⟩:∃ A a,l=A++[a]:=by
   rcases List.eq_nil_or_concat l with rfl|⟨m,x,rfl⟩
   ·simp at h
   ·exact ⟨m,x,by simp⟩
  obtain ⟨h1,h2⟩:=madeR_snoc hm
  rw [List.nil_append] at h2
  obtain ⟨r1,r2,r3,r4⟩:=putE_ok h2
  have ih:=made_ok c n A (by simpa using h) h1
  have ha:=rightA_am r1
  have hs:=ih.sh
  have hb:=ih.bc
  have he:=ih.eq
  have hlo:=ih.lo
  have hov:(a.kd=2→a.am≤1000000000000000-(posQ A).sh)∧(a.kd=3→a.am≤1000000000000000-(posQ A).bc):=by
   unfold overA at r4
   rw [wI (by omega),wI (by omega)] at r4
   simp only [Bool.or_eq_false_iff,Bool.and_eq_false_iff,decide_eq_false_iff_not,beq_eq_false_iff_ne] at r4
   omega
  refine ⟨fun x hx=>?_,fun x hx=>?_,by rw [lastA_snoc];omega,?_,?_,?_,?_⟩
  ·rcases List.mem_append.1 hx with hx|hx
   ·exact ih.rt x hx
   ·rw [List.mem_singleton.1 hx];exact r1
  ·rw [lastA_snoc]
   rcases List.mem_append.1 hx with hx|hx
   ·have:=ih.bk x hx;omega
   ·rw [List.mem_singleton.1 hx];omega
  ·rw [List.pairwise_append]
   refine ⟨ih.srt,List.pairwise_singleton _ _,fun x hx y hy=>?_⟩
   rw [List.mem_singleton.1 hy]
   have:=ih.bk x hx;omega
  ·rw [posQ_snoc,stepQ]
   by_cases k1:a.kd=1
   ·rw [if_pos k1];exact hs
   ·rw [if_neg k1]
    by_cases k2:a.kd=2
    ·rw [if_pos k2];simp only;rw [w64_in (by omega)];omega
    ·rw [if_neg k2]
     split
     ·exact hs
     ·split
      ·exact hs
      ·split<;>exact hs
  ·rw [posQ_snoc,stepQ]
   by_cases k1:a.kd=1
   ·rw [if_pos k1];exact hb
   ·rw [if_neg k1]
    by_cases k2:a.kd=2
    ·rw [if_pos k2];exact hb
    ·rw [if_neg k2]
     by_cases k3:a.kd=3
     ·rw [if_pos k3];simp only;rw [w64_in (by omega)];omega
     ·rw [if_neg k3]
      split
      ·exact hb
      ·split<;>exact hb
  ·rw [posQ_snoc,stepQ,List.filter_append,List.map_append,List.sum_append,←he]
   by_cases k2:a.kd=2
   ·rw [if_neg (by omega),if_pos k2];simp only;rw [w64_in (by omega)];simp [k2]
   ·have e:([a].filter fun a=>decide (a.kd=2))=[]:=by simp [k2]
    rw [e,if_neg k2]
    simp only [List.map_nil,List.sum_nil,Int.add_zero]
    split
    ·rfl
    ·split
     ·rfl
     ·split
      ·rfl
      ·split<;>rfl
theorem known_pre {l:List Ac} (h:l.Pairwise (fun a b=>a.bk≤b.bk)) (d:Int):∃ B,l=(l.filter fun a=>decide (a.bk≤d))++B:=by
 induction l with
 |nil=>exact ⟨[],rfl⟩
 |cons a l ih =>
  obtain ⟨h1,h2⟩:=List.pairwise_cons.1 h
  by_cases hb:a.bk≤d
  ·obtain ⟨B,hB⟩:=ih h2
   refine ⟨B,?_⟩
   rw [List.filter_cons,if_pos (decide_eq_true hb),List.cons_append,←hB]
  ·refine ⟨a::l,?_⟩
   rw [List.filter_eq_nil_iff.2,List.nil_append]
   intro x hx
   rcases List.mem_cons.1 hx with rfl|hx
   ·simpa using hb
   ·have:=h1 x hx;simp;omega
theorem known_made {f:Fi} (h:madeF f=true) (d:Int):madeF (knownF d f)=true:=by
 have ok:=made_ok f.cl _ f.ac rfl h
 obtain ⟨B,hB⟩:=known_pre ok.srt d
 unfold madeF at h ⊢
 rw [hB,madeR_app,Bool.and_eq_true] at h
 exact h.1
def formedC (c:Cm):Bool:=(wiB c.id 1 1000000000&&wiB c.po 1 1000000000&&wiB c.ev 0 1000000000)&&(wiB c.lo 1 292194&&wiB c.bk 1 292194)&&wiB c.pe 0 7
def badF (c:Cv) (f:Fi):Bool:=!(formedC f.cl) || (f.cl.pe != c.pe) || !(madeF f)
def rightL (c:Cv) (l:List Fi):Bool:=rightC c&&!(l.any (badF c))
def actsN:List Fi→Nat
 |[]=>0
 |f::r=>f.ac.length+actsN r
def checkL (c:Cv) (l:List Fi):Int:=if rightL c l=false then 1 else if 2000<l.length∨2000<actsN l then 2 else 0
structure RightOk (c:Cv) (l:List Fi):Prop where
 cv:rightC c=true
 fl:∀ f,f∈l→badF c f=false
 n:l.length≤2000
 a:actsN l≤2000
theorem check_ok {c:Cv} {l:List Fi} (h:checkL c l=0):RightOk c l:=by
 unfold checkL at h
 split at h
 ·cases h
 ·split at h
  ·cases h
  ·rename_i h1 h2
   have h3:rightL c l=true:=by simpa using h1
   rw [rightL,Bool.and_eq_true,Bool.not_eq_true',List.any_eq_false] at h3
   exact ⟨h3.1,fun f hf=>by simpa using h3.2 f hf,by omega,by omega⟩
theorem ok_check {c:Cv} {l:List Fi} (h:RightOk c l):checkL c l=0:=by
 have h3:rightL c l=true:=by rw [rightL,Bool.and_eq_true,Bool.not_eq_true',List.any_eq_false];exact ⟨h.cv,fun f hf=>by simpa using h.fl f hf⟩
 have:=h.n
 have:=h.a
 unfold checkL
 rw [if_neg (by rw [h3];simp),if_neg (by omega)]
theorem badF_iff {c:Cv} {f:Fi}:badF c f=false↔formedC f.cl=true∧f.cl.pe=c.pe∧madeF f=true:=by
 simp only [badF,Bool.or_eq_false_iff,Bool.not_eq_false',bne_eq_false_iff_eq,and_assoc]
theorem acts_known (d:Int):∀ l:List Fi,actsN (knownL l d)≤actsN l
 |[]=>Nat.le_refl _
 |f::r=>by
  have ih:=acts_known d r
  rw [actsN,knownL,List.filter_cons]
  split
  ·rw [List.map_cons,actsN]
   have h1:(knownF d f).ac.length≤f.ac.length:=List.length_filter_le _ _
   have h2:actsN ((r.filter fun f=>decide (f.cl.bk≤d)).map (knownF d))=actsN (knownL r d):=rfl
   omega
  ·have h2:actsN ((r.filter fun f=>decide (f.cl.bk≤d)).map (knownF d))=actsN (knownL r d):=rfl
   omega
theorem known_ok {c:Cv} {l:List Fi} (h:RightOk c l) (d:Int):RightOk c (knownL l d):=by
 refine ⟨h.cv,fun f hf=>?_,?_,Nat.le_trans (acts_known d l) h.a⟩
 ·obtain ⟨g,hg,rfl⟩:=List.mem_map.1 hf
  have:=badF_iff.1 (h.fl g (List.mem_filter.1 hg).1)
  exact badF_iff.2 ⟨this.1,this.2.1,known_made this.2.2 d⟩
 ·rw [knownL,List.length_map]
  exact Nat.le_trans (List.length_filter_le _ _) h.n
theorem RightOk.aft {c:Cv} {l:List Fi} (h:RightOk c l):Aft l:=fun f hf a ha=>by
 have:=badF_iff.1 (h.fl f hf)
 exact ((made_ok f.cl _ f.ac rfl this.2.2).bk a ha).1
theorem formedC_iff {c:Cm}:formedC c=true↔((1≤c.id∧c.id≤1000000000)∧(1≤c.po∧c.po≤1000000000)∧(0≤c.ev∧c.ev≤1000000000))∧((1≤c.lo∧c.lo≤292194)∧(1≤c.bk∧c.bk≤292194))∧(0≤c.pe∧c.pe≤7):=by
 simp only [formedC,wiB,Bool.and_eq_true,decide_eq_true_eq,and_assoc,ge_iff_le]
end Go.Proofs.YtmccbkekpjgdbaaGreat
end
section
namespace Go.Proofs.YtmccbkekpjgdbaaGreat
open Go.Bx
section
variable {X:Type} (d:X)
def blkq (l:List X) (a b n:Nat):List X:=(List.range l.length).map fun m=>if a≤m∧m<a+n then l.getD (m-a+b) d else if b≤m∧m<b+n then l.getD (m-b+a) d else l.getD m d
theorem blkq_len (l:List X) (a b n:Nat):(blkq d l a b n).length=l.length:=by simp [blkq]
theorem blkq_get {l:List X} {a b n m:Nat} (h:m<l.length):(blkq d l a b n).getD m d=if a≤m∧m<a+n then l.getD (m-a+b) d else if b≤m∧m<b+n then l.getD (m-b+a) d else l.getD m d:=by
 simp [blkq,List.getD_eq_getElem?_getD,h]
theorem ext_getD {l m:List X} (h:l.length=m.length) (hg:∀ i,i<l.length→l.getD i d=m.getD i d):l=m:=by
 apply List.ext_getElem h
 intro i h1 h2
 have:=hg i h1
 simpa [List.getD_eq_getElem?_getD,h1,h2] using this
theorem blkq_zero (l:List X) (a b:Nat):blkq d l a b 0=l:=by
 refine ext_getD d (blkq_len _ _ _ _ _) fun i hi=>?_
 rw [blkq_len] at hi
 rw [blkq_get d hi,if_neg (by omega),if_neg (by omega)]
theorem blkq_step {l:List X} {a b k:Nat} (h1:a+k<b) (h2:b+k<l.length):swq d (blkq d l a b k) (a+k) (b+k)=blkq d l a b (k+1):=by
 have hl:=blkq_len d l a b k
 refine ext_getD d (by rw [swq_len,hl,blkq_len]) fun i hi=>?_
 rw [swq_len,hl] at hi
 rw [swq_get d (by rw [hl];omega) (by rw [hl];omega),blkq_get d (m:=a+k) (by omega),blkq_get d (m:=b+k) (by omega),blkq_get d (m:=i) hi,blkq_get d (m:=i) hi]
 by_cases e1:i=b+k
 ·subst e1
  rw [if_pos rfl,if_neg (show ¬ (a≤a+k∧a+k<a+k) by omega),if_neg (show ¬ (b≤a+k∧a+k<b+k) by omega),if_neg (by omega),if_pos (by omega)]
  congr 1;omega
 ·rw [if_neg e1]
  by_cases e2:i=a+k
  ·subst e2
   rw [if_pos rfl,if_neg (show ¬ (a≤b+k∧b+k<a+k) by omega),if_neg (show ¬ (b≤b+k∧b+k<b+k) by omega),if_pos (by omega)]
   congr 1;omega
  ·rw [if_neg e2]
   by_cases e3:a≤i∧i<a+k
   ·rw [if_pos e3,if_pos (by omega)]
   ·by_cases e4:b≤i∧i<b+k
    ·rw [if_neg e3,if_pos e4,if_neg (by omega),if_pos (by omega)]
    ·rw [if_neg e3,if_neg e4,if_neg (by omega),if_neg (by omega)]
theorem getD_app (u v:List X) (i:Nat):(u++v).getD i d=if i<u.length then u.getD i d else v.getD (i-u.length) d:=by
 simp only [List.getD_eq_getElem?_getD,List.getElem?_append]
 split<;>rfl
theorem blkq_app (P U M W S:List X) (h:U.length=W.length) {a b:Nat} (ha:a=P.length) (hb:b=P.length+U.length+M.length):blkq d (P++(U++(M++(W++S)))) a b U.length=P++(W++(M++(U++S))):=by
 subst ha;subst hb
 refine ext_getD d (by rw [blkq_len];simp only [List.length_append];omega) fun i hi=>?_
 rw [blkq_len] at hi
 rw [blkq_get d hi]
 simp only [getD_app]
 by_cases c1:i<P.length
 ·rw [if_neg (by omega),if_neg (by omega),if_pos c1,if_pos c1]
 ·by_cases c2:i<P.length+U.length
  ·rw [if_pos (by omega),if_neg (by omega),if_neg (by omega),if_neg (by omega),if_pos (by omega),if_neg c1,if_pos (by omega)]
   congr 1;omega
  ·by_cases c3:i<P.length+U.length+M.length
   ·rw [if_neg (by omega),if_neg (by omega),if_neg c1,if_neg (by omega),if_pos (by omega),if_neg c1,if_neg (by omega),if_pos (by omega)]
    congr 1;omega
   ·by_cases c4:i<P.length+U.length+M.length+W.length
    ·rw [if_neg (by omega),if_pos (by omega),if_neg (by omega),if_pos (by omega),if_neg c1,if_neg (by omega),if_neg (by omega),if_pos (by omega)]
     congr 1;omega
    ·rw [if_neg (by omega),if_neg (by omega),if_neg c1,if_neg (by omega),if_neg (by omega),if_neg (by omega),if_neg c1,if_neg (by omega),if_neg (by omega),if_neg (by omega)]
     congr 1;omega
end
section
variable {X:Type} {lt:X→X→Bool}
theorem cut_mrg (d:X) (w:Swo lt) {A B:List X} (hA:Srt lt A) (hB:Srt lt B) (i j:Nat) (hi:i≤A.length) (hj:j≤B.length)
  (h1:i<A.length→0<j→lt (B.getD (j-1) d) (A.getD i d)=true) (h2:0<i→j<B.length→lt (B.getD j d) (A.getD (i-1) d)=false) :
  mrg lt A B=mrg lt (A.take i) (B.take j)++mrg lt (A.drop i) (B.drop j):=by
 have gA:∀ k,(hk:k<A.length)→A.getD k d=A[k]:=fun k hk=>by simp [List.getD_eq_getElem?_getD,hk]
 have gB:∀ k,(hk:k<B.length)→B.getD k d=B[k]:=fun k hk=>by simp [List.getD_eq_getElem?_getD,hk]
 have le:∀ {L:List X} {p q:Nat} (hL:Srt lt L) (hp:p<L.length) (hq:q<L.length),p≤q→lt L[q] L[p]=false:=fun {L p q} hL hp hq hpq=>by
  rcases Nat.lt_or_eq_of_le hpq with h|h
  ·exact List.pairwise_iff_getElem.1 hL p q hp hq h
  ·subst h
   cases hx:lt L[p] L[p] with
   |false=>rfl
   |true=>have:=w.asy _ _ hx;rw [hx] at this;cases this
 conv=>lhs;rw [←List.take_append_drop i A,←List.take_append_drop j B]
 refine mrg_split lt _ _ _ _ (fun b hb a ha=>?_) (fun a ha b hb=>?_)
 ·obtain ⟨p,hp,rfl⟩:=List.getElem_of_mem hb
  obtain ⟨q,hq,rfl⟩:=List.getElem_of_mem ha
  simp only [List.length_take,List.length_drop] at hp hq
  rw [List.getElem_take,List.getElem_drop]
  have hh:=h1 (by omega) (by omega)
  rw [gA _ (by omega),gB _ (by omega)] at hh
  cases hx:lt B[p] A[i+q] with
  |true=>rfl
  |false =>
   have e1:=w.nt _ _ _ (le hB (p:=p) (q:=j-1) (by omega) (by omega) (by omega)) hx
   have e2:=w.nt _ _ _ e1 (le hA (p:=i) (q:=i+q) (by omega) (by omega) (by omega))
   rw [hh] at e2;cases e2
 ·obtain ⟨p,hp,rfl⟩:=List.getElem_of_mem ha
  obtain ⟨q,hq,rfl⟩:=List.getElem_of_mem hb
  simp only [List.length_take,List.length_drop] at hp hq
  rw [List.getElem_take,List.getElem_drop]
  have hh:=h2 (by omega) (by omega)
  rw [gA _ (by omega),gB _ (by omega)] at hh
  have e1:=w.nt _ _ _ (le hB (p:=j) (q:=j+q) (by omega) (by omega) (by omega)) hh
  exact w.nt _ _ _ e1 (le hA (p:=p) (q:=i-1) (by omega) (by omega) (by omega))
end
end Go.Proofs.YtmccbkekpjgdbaaGreat
end
section
namespace Go.Proofs.YtmccbkekpjgdbaaGreat
open Go.Bx
set_option maxRecDepth 10000
def cmpI (a b:Int):Int:=if a<b then -1 else if b<a then 1 else 0
theorem sCmpI (a b:Int):Ctr Tryz.prog 49 [.d (.int .i64 a),.d (.int .i64 b)] [] (.d (.int .i64 (cmpI a b))) [] []:=by
 refine qP Tryz.func49 fun c hP hfn=>?_;simp only [vcd,↓vcp,seval]
 repeat' first|(refine tq hP (h:=⟨_,fun _=>by first|exact sNaN a|exact sNaN b,?_⟩);try simp only [vcd,↓vcp,seval])|refine ⟨fun h=>?_,fun h=>?_⟩|refine aX ?_|fail
 ·have h':=of_decide_eq_true h
  (refine rq ?_;first|exact ⟨⟩|simp [cmpI,h'])
 ·have h':=of_decide_eq_true h
  have h2:¬ a<b:=by omega
  (refine rq ?_;first|exact ⟨⟩|simp only [cmpI,if_neg h2,if_pos h'])
 ·rename_i h0
  have h':=of_decide_eq_false h
  have h2:=of_decide_eq_false h0
  (refine rq ?_;first|exact ⟨⟩|simp only [cmpI,if_neg h2,if_neg h'])
def rowZ (l:List Int):Go.Bx.Own:=.row 3 1 l.length (fun i=>[.int .i64 (l.getD i 0)])
def fnO (g:Nat) (ds:List D):V:=.fn (.func g) [] [.mem ds]
def ltO (cf:Int→Int→Int) (a b:Int):Bool:=decide (cf a b<0)
structure CmpO (g:Nat) (ds:List D) (cf:Int→Int→Int) (ok:Int→Prop):Prop where
 w:Swo (ltO cf)
 c:∀ a b,ok a→ok b→Ctr Tryz.prog g [.d (.int .i64 a),.d (.int .i64 b),.mem ds] [] (.d (.int .i64 (cf a b))) [] []
theorem getD_at {u:List Int} {p:Int} {w:List Int} {i:Nat} (h:i=u.length):(u++p::w).getD i 0=p:=by subst h;exact getD_mid 0 u p w
theorem TR.gpw {c:Ctx} {b:Bool} {is:List I} {st:St} {acc:List Lg} {K:List Lg→St→Prop} {P:Program} (hP:c.P=P) {d:Option Nat} {s:Nat} {want gc:Bool} {x:X} {f:Nat} {first cap:List V} {xs:List X} {res:V} (hg:gOf st.env s want=some gc)
  (hx:gc=true→evV st x=.fn (.func f) first cap) (hS:gc=true→Ctr P f (first++(evVs st xs++cap)) [] res [] []) (hsx:gc=true→evS true st x) (hs:gc=true→evSs true st xs)
  (h:vcR c b is (st.stp d { val:=.gd gc res,upd:=[],rd:=[],new:=[] }) (lgs b acc ⟨[],[]⟩) K):TR c b (⟨d,some (s,want),.callv x xs⟩::is) st acc K:=
 TR.cons { val:=.gd gc res,upd:=[],rd:=[],new:=[] } (valid_gd_pure hg fun e=>valid_callv (hx e) (by rw [hP];exact hS e) (hsx e) (hs e) (fun k o h=>by simp at h) (by simp [keysO])) (fun k hk=>by simp at hk) (vcR_ok h)
theorem OLe.swz {e:Nat} {l l':List Int} {i j:Nat} {u v:Int} (hi:i<l.length) (hj:j<l.length) (hu:l.getD i 0=u) (hv:l.getD j 0=v) (h:l'=swq 0 l i j) :
  OLe (.row e 1 l.length (fun i'=>if i'=j then putD (if j=i then putD [.int .i64 u] 0 [.int .i64 v] else [.int .i64 v]) 0 [.int .i64 u] else if i'=i then putD [.int .i64 u] 0 [.int .i64 v] else [.int .i64 (l.getD i' 0)]))
   (.row e 1 l'.length (fun i=>[.int .i64 (l'.getD i 0)])):=by
 subst h
 refine OLe.row (swq_len _ _ _ _).symm fun m hm=>?_
 rw [swq_get 0 hi hj m,hu,hv]
 by_cases e1:m=j
 ·subst e1;simp only [if_true];split<;>simp [putD]
 ·rw [if_neg e1,if_neg e1]
  by_cases e2:m=i
  ·subst e2;simp [putD]
  ·rw [if_neg e2,if_neg e2]
theorem sInsert {g:Nat} {ds:List D} {cf:Int→Int→Int} {ok:Int→Prop} (hc:CmpO g ds cf ok) (P M S:List Int) (hok:∀ x,x∈M→ok x) (hl:P.length+(M.length+S.length)≤4611686018427387904) :
  Ctr Tryz.prog 180 [.osl 900,.d (.int .i64 P.length),.d (.int .i64 ((P.length+M.length:Nat):Int)),fnO g ds] [(900,rowZ (P++(M++S)))] (.tup []) [(900,rowZ (P++(srt (ltO cf) [] M++S)))] []:=by
 refine qO Tryz.func180 ?_
 intro c hP hfn
 have w1:IntKind.i64.wrap ((P.length:Int)+1)=((P.length+1:Nat):Int):=wS (by omega)
 simp only [namesL,V.names,ownNames,rowZ,fnO,w1,vcd,↓vcp,seval]
 refine vcC.loop (X:=Nat×List Int) (fun x=>⟨[(0,.osl 900),(1,.d (.int .i64 P.length)),(2,.d (.int .i64 ((P.length+M.length:Nat):Int))),(3,fnO g ds),(8,.d (.int .i64 (x.1:Nat)))],[(900,rowZ x.2)],[900]⟩)
  (fun x=>∃ k,x.1=P.length+k∧1≤k∧(k≤M.length∨k=1)∧x.2=P++(srt (ltO cf) [] (M.take k)++(M.drop k++S))) (fun x=>P.length+M.length-x.1) (P.length+1,P++(M++S)) ⟨1,rfl,Nat.le_refl _,.inr rfl,?_⟩ (Wk.of _ hfn rfl (by simp only [fnO,enb,vcd,↓vcp,seval]) (by simp only [rowZ,enb,vcd,↓vcp,seval])) ?_
 ·cases M with
  |nil=>rfl
  |cons a M=>simp [srt,mrg]
 rintro ⟨i,l⟩ ⟨k,hi,h1,hk,hL⟩
 simp only at hi hL
 by_cases hlt:k<M.length
 ·obtain ⟨e,hd,hg,hm,he⟩:=drop_at hlt
  have oke:=hok e hm
  have d0:decide ((i:Int)<((P.length+M.length:Nat):Int))=true:=decide_eq_true (by omega)
  have tl:(srt (ltO cf) [] (M.take k)).length=k:=by rw [srt_len,List.length_take];simp;omega
  have okT:∀ x,x∈srt (ltO cf) [] (M.take k)→ok x:=fun x hx=>hok x (List.mem_of_mem_take (by simpa using (srt_perm (ltO cf) (M.take k) []).mem_iff.1 hx))
  have hT2:srt (ltO cf) [] (M.take (k+1))=mrg (ltO cf) (srt (ltO cf) [] (M.take k)) [e]:=by
   rw [List.take_add_one,he,srt_app];rfl
  simp only [rowZ,fnO,d0,vcd,↓vcp,seval]
  repeat' first|refine ⟨fun h=>?_,fun h=>?_⟩|refine aX ?_|fail
  refine vcC.loop (X:=Nat×List Int) (fun x=>⟨[(0,.osl 900),(1,.d (.int .i64 P.length)),(2,.d (.int .i64 ((P.length+M.length:Nat):Int))),(3,fnO g ds),(8,.d (.int .i64 (i:Nat))),(9,.d (.int .i64 (x.1:Nat)))],[(900,rowZ x.2)],[900]⟩)
   (fun x=>∃ A B,A++B=srt (ltO cf) [] (M.take k)∧(∀ b,b∈B→ltO cf e b=true)∧x.1=P.length+A.length∧x.2=P++(A++(e::(B++(M.drop (k+1)++S))))) (fun x=>x.1) (i,l) ⟨_,[],List.append_nil _,fun b hb=>by simp at hb,by rw [tl];exact hi,by rw [hL,hd];simp⟩ (Wk.of _ hfn rfl (by simp only [fnO,enb,vcd,↓vcp,seval]) (by simp only [rowZ,enb,vcd,↓vcp,seval])) ?_
  rintro ⟨j,r⟩ ⟨A,B,hAB,hB,hj,hr⟩
  simp only at hj hr
  have hlA:A.length+B.length=k:=by rw [←tl,←hAB,List.length_append]
  have hrl:r.length=P.length+(M.length+S.length):=by rw [hr];simp only [List.length_append,List.length_cons,List.length_drop];omega
  have gj:r.getD j 0=e:=by rw [hr,hj,←List.append_assoc];exact getD_at (by simp)
  have bj:(0:Int)≤(j:Int)∧(j:Int)<(r.length:Int):=by omega
  have w2:IntKind.i64.wrap ((i:Int)+1)=((i+1:Nat):Int):=wS (by omega)
  by_cases hA:A.length=0
  ·have hA0:A=[]:=List.eq_nil_of_length_eq_zero hA
   subst hA0
   rw [List.nil_append] at hAB
   have hres:r=P++(srt (ltO cf) [] (M.take (k+1))++(M.drop (k+1)++S)):=by
    rw [hr,hT2,←hAB,mrg_one_lo hB];simp
   have d1:decide ((j:Int)>(P.length:Int))=false:=decide_eq_false (by simp at hj;omega)
   simp only [rowZ,fnO,d1,w2,vcd,↓vcp,seval]
   refine TR.gpw (gc:=false) (first:=[]) (cap:=[]) (f:=0) (res:=.d (.int .i64 0)) hP rfl (fun h=>by cases h) (fun h=>by cases h) (fun h=>by cases h) (fun h=>by cases h) ?_
   simp only [w2,vcd,↓vcp,seval]
   repeat' first|refine ⟨fun h=>?_,fun h=>?_⟩|refine aX ?_|fail
   refine lopK.on (i+1,r) ⟨k+1,by simp only;omega,by omega,.inl hlt,hres⟩ (by simp only;omega) (Wk.of _ hfn rfl (by simp only [fnO,enb,vcd,↓vcp,seval]) (by simp only [rowZ,enb,vcd,↓vcp,seval]))
  ·obtain ⟨A,x,rfl⟩:∃ A' x,A=A'++[x]:=by
    rcases List.eq_nil_or_concat A with h|⟨m,x,h⟩
    ·rw [h] at hA;exact absurd rfl hA
    ·exact ⟨m,x,by simpa using h⟩
   simp only [List.length_append,List.length_singleton] at hj hlA
   have d1:decide ((j:Int)>(P.length:Int))=true:=decide_eq_true (by omega)
   have e1:IntKind.i64.wrap ((j:Int)-1)=((j-1:Nat):Int):=by rw [wI (by omega)];omega
   have b1:(0:Int)≤((j-1:Nat):Int)∧((j-1:Nat):Int)<(r.length:Int):=by omega
   have g1:r.getD (j-1) 0=x:=by
    have:r=(P++A)++x::(e::(B++(M.drop (k+1)++S))):=by rw [hr];simp
    rw [this];exact getD_at (by simp;omega)
   have okx:ok x:=okT x (by rw [←hAB];simp)
   have cc:=hc.c e x oke okx
   simp only [rowZ,fnO,d1,e1,gj,g1,vcd,↓vcp,seval]
   repeat' first|refine ⟨fun h=>?_,fun h=>?_⟩|refine aX ?_|fail
   refine TR.gpw (gc:=true) hP rfl (fun _=>rfl) (fun _=>cc) (by intro _;simp only [vcd,↓vcp,seval]) (by intro _;simp only [vcd,↓vcp,seval]) ?_
   simp only [e1,gj,g1,vcd,↓vcp,seval]
   repeat' first|refine ⟨fun h=>?_,fun h=>?_⟩|refine aX ?_|fail
   ·refine lopK.on (j-1,swq 0 r j (j-1)) ⟨A,x::B,by rw [←hAB];simp,fun b hb=>?_,by simp only;omega,?_⟩ (by simp only;omega) (Wk.of _ hfn rfl (by simp only [fnO,enb,vcd,↓vcp,seval]) ?_)
    ·rcases List.mem_cons.1 hb with rfl|hb
     ·exact h
     ·exact hB b hb
    ·have:r=(P++A)++x::e::(B++(M.drop (k+1)++S)):=by rw [hr];simp
     simp only [this]
     rw [swq_next' 0 (P++A) x e _ (by simp;omega) (by simp;omega)];simp
    ·simp only [rowZ,enb,vcd,↓vcp,seval]
     exact OLe.swz (by omega) (by omega) gj g1 rfl
   ·have hlo:∀ a,a∈A++[x]→ltO cf e a=false:=fun a ha=>by
     have hS:=srt_sorted hc.w (M.take k) [] List.Pairwise.nil
     rw [←hAB] at hS
     have h8:ltO cf e x=false:=h
     rcases List.mem_append.1 ha with h9|h9
     ·have hS1:=(List.pairwise_append.1 (List.pairwise_append.1 hS).1).2.2 a h9 x (by simp)
      exact hc.w.nt e x a h8 hS1
     ·rw [List.mem_singleton.1 h9];exact h8
    refine lopK.on (i+1,r) ⟨k+1,by simp only;omega,by omega,.inl hlt,?_⟩ (by simp only;omega) (Wk.of _ hfn rfl (by simp only [fnO,w2,enb,vcd,↓vcp,seval]) (by simp only [rowZ,enb,vcd,↓vcp,seval]))
    simp only
    rw [hr,hT2,←hAB,mrg_ins1 hB hlo];simp
 ·have d0:decide ((i:Int)<((P.length+M.length:Nat):Int))=false:=decide_eq_false (by omega)
  have e1:M.take k=M:=List.take_of_length_le (by omega)
  have e2:M.drop k=[]:=List.drop_eq_nil_of_le (by omega)
  rw [e1,e2,List.nil_append] at hL
  simp only [rowZ,fnO,d0,vcd,↓vcp,seval]
  repeat' first|refine ⟨fun h=>?_,fun h=>?_⟩|refine aX ?_|fail
  refine rK' (Wk.refl _ _) ?_
  simp only [hL,enb,vcd,↓vcp,seval]
end Go.Proofs.YtmccbkekpjgdbaaGreat
end
section
namespace Go.Proofs.YtmccbkekpjgdbaaGreat
open Go.Bx
set_option maxRecDepth 10000
theorem sStable {g:Nat} {ds:List D} {cf:Int→Int→Int} {ok:Int→Prop} (hc:CmpO g ds cf ok) (L:List Int) (hok:∀ x,x∈L→ok x) (hl:L.length≤19) :
  Ctr Tryz.prog 157 [.osl 900,.d (.int .i64 (L.length:Int)),fnO g ds] [(900,rowZ L)] (.tup []) [(900,rowZ (srt (ltO cf) [] L))] []:=by
 have cc:=sInsert hc [] L [] hok (by simp only [List.length_nil];omega)
 simp only [List.nil_append,List.append_nil,List.length_nil,Nat.zero_add] at cc
 refine qO Tryz.func157 ?_
 intro c hP hfn
 have d0:decide ((20:Int)≤(L.length:Int))=false:=decide_eq_false (by omega)
 have d1:decide ((20:Int)<(L.length:Int))=false:=decide_eq_false (by omega)
 simp only [rowZ,fnO] at cc
 simp only [namesL,V.names,ownNames,rowZ,fnO,vcd,↓vcp,seval]
 refine vcC.loop (X:=Unit) (fun _=>⟨[(0,.osl 900),(1,.d (.int .i64 (L.length:Int))),(2,fnO g ds),(6,.d (.int .i64 20)),(7,.d (.int .i64 (0:Nat))),(8,.d (.int .i64 20))],[(900,rowZ L)],[900]⟩)
  (fun _=>True) (fun _=>0) () trivial (Wk.of _ hfn rfl (by simp only [fnO,enb,vcd,↓vcp,seval]) (by simp only [rowZ,enb,vcd,↓vcp,seval])) ?_
 intro _ _
 simp only [rowZ,fnO,d0,vcd,↓vcp,seval]
 repeat' first|refine ⟨fun h=>?_,fun h=>?_⟩|refine aX ?_|fail
 refine TR.call [(900,rowZ L)] [(900,rowZ (srt (ltO cf) [] L))] _ [] (by rw [hP];exact cc) (by repeat' first|exact trivial|(intro _;assumption)|apply And.intro) (hin1 rfl) (by simp [keysO]) (by simp) ?_
 simp only [rowZ,vcd,↓vcp,seval]
 refine vcC.loop (X:=Unit) (fun _=>⟨[(0,.osl 900),(1,.d (.int .i64 (L.length:Int))),(2,fnO g ds),(6,.d (.int .i64 20))],[(900,rowZ (srt (ltO cf) [] L))],[900]⟩)
  (fun _=>True) (fun _=>0) () trivial (Wk.of _ hfn rfl (by simp only [fnO,enb,vcd,↓vcp,seval]) (by simp only [rowZ,enb,vcd,↓vcp,seval])) ?_
 intro _ _
 simp only [rowZ,fnO,d1,vcd,↓vcp,seval]
 repeat' first|refine ⟨fun h=>?_,fun h=>?_⟩|refine aX ?_|fail
 refine rK' (Wk.refl _ _) ?_
 simp only [enb,vcd,↓vcp,seval]
theorem sSortSt {g:Nat} {ds:List D} {cf:Int→Int→Int} {ok:Int→Prop} (hc:CmpO g ds cf ok) (L:List Int) (hok:∀ x,x∈L→ok x) (hl:L.length≤19) :
  Ctr Tryz.prog 121 [.osl 900,fnO g ds] [(900,rowZ L)] (.tup []) [(900,rowZ (srt (ltO cf) [] L))] []:=by
 refine qO Tryz.func121 ?_
 intro c hP hfn
 have cc:=sStable hc L hok hl
 simp only [rowZ,fnO] at cc
 simp only [namesL,V.names,ownNames,rowZ,fnO,vcd,↓vcp,seval]
 refine TR.call [(900,rowZ L)] [(900,rowZ (srt (ltO cf) [] L))] _ [] (by rw [hP];exact cc) (by repeat' first|exact trivial|(intro _;assumption)|apply And.intro) (hin1 rfl) (by simp [keysO]) (by simp) ?_
 simp only [vcd,↓vcp,seval]
 repeat' first|refine ⟨fun h=>?_,fun h=>?_⟩|refine aX ?_|fail
 refine rK' (Wk.refl _ _) ?_
 simp only [rowZ,enb,vcd,↓vcp,seval]
end Go.Proofs.YtmccbkekpjgdbaaGreat
end
section
namespace Go.Proofs.YtmccbkekpjgdbaaGreat
open Go.Bx
set_option maxRecDepth 10000
def z0:Sl:=⟨0,0,false,⟨0,0,0,0⟩,[],0⟩
end Go.Proofs.YtmccbkekpjgdbaaGreat
end
section
namespace Go.Proofs.YtmccbkekpjgdbaaGreat
open Go.Bx
set_option maxRecDepth 10000
def dHi (h:Hi):List D:=[.int .i64 h.id,.int .i64 h.bk,.int .i64 h.tm.sf,.int .i64 h.tm.st,.int .i64 h.tm.rk.kd,.int .i64 h.tm.rk.va,.int .i64 h.tm.rk.ag,.int .i64 h.tm.rk.zo,slC h.tm.cv,slH h.ch]
def dayC (l:List Ch) (a:Int):Int:=(l.getD a.toNat default).dy
def cfC (l:List Ch) (a b:Int):Int:=cmpI (dayC l a) (dayC l b)
def okH (l:List Ch) (a:Int):Prop:=0≤a∧a<l.length
theorem cmpI_lt (a b:Int):decide (cmpI a b<0)=decide (a<b):=by
 unfold cmpI
 by_cases h:a<b
 ·simp [h]
 ·by_cases h2:b<a<;>simp [h,h2]
theorem ltC (l:List Ch) (a b:Int):ltO (cfC l) a b=decide (dayC l a<dayC l b):=cmpI_lt _ _
theorem swoC (l:List Ch):Swo (ltO (cfC l)):=⟨fun a b h=>by rw [ltC] at *;simp at *;omega,fun a b c h1 h2=>by rw [ltC] at *;simp at *;omega⟩
theorem sOrder1 (h:Hi) (a b:Int) (ha:okH h.ch a) (hb:okH h.ch b):Ctr Tryz.prog 122 [.d (.int .i64 a),.d (.int .i64 b),.mem (dHi h)] [] (.d (.int .i64 (cfC h.ch a b))) [] []:=by
 have cc:=sCmpI (dayC h.ch a) (dayC h.ch b)
 simp only [dayC] at cc
 obtain ⟨h1,h2⟩:=ha
 obtain ⟨h3,h4⟩:=hb
 refine qP Tryz.func122 fun c hP hfn=>?_;simp only [dHi,slH,dCh,vcd,↓vcp,seval]
 repeat' first|(refine tq hP (h:=⟨_,fun _=>by exact cc,?_⟩);try simp only [vcd,↓vcp,seval])|refine ⟨fun h=>?_,fun h=>?_⟩|refine aX ?_|fail
 exact rr
theorem cmpOC (h:Hi):CmpO 122 (dHi h) (cfC h.ch) (okH h.ch):=⟨swoC _,fun a b ha hb=>sOrder1 h a b ha hb⟩
def intsN (n:Nat):List Int:=(List.range n).map fun k:Nat=>((k:Nat):Int)
def orderC (l:List Ch):List Int:=srt (ltO (cfC l)) [] (intsN l.length)
theorem intsN_succ (n:Nat):intsN (n+1)=intsN n++[(n:Int)]:=by simp [intsN,List.range_succ]
theorem intsN_len (n:Nat):(intsN n).length=n:=by simp [intsN]
theorem orderC_perm (l:List Ch):(orderC l).Perm (intsN l.length):=by have:=srt_perm (ltO (cfC l)) (intsN l.length) [];rwa [List.nil_append] at this
theorem orderC_len (l:List Ch):(orderC l).length=l.length:=by rw [(orderC_perm l).length_eq,intsN_len]
theorem orderC_ok (l:List Ch):∀ x,x∈orderC l→okH l x:=fun x hx=>by
 have:=(orderC_perm l).mem_iff.1 hx
 simp only [intsN,List.mem_map,List.mem_range] at this
 obtain ⟨k,hk,rfl⟩:=this
 exact ⟨by omega,by omega⟩
theorem sOrderC (hh:Hi) (hl:hh.ch.length≤18):Ctr Tryz.prog 72 [vHi hh] [] (.d (slK .i64 (orderC hh.ch))) [] []:=by
 refine qP Tryz.func72 fun c hP hfn=>?_;simp only [vHi,cHi,slH,vcd,↓vcp,seval]
 refine vcC.loop (X:=Nat) (fun k=>⟨[(3,.osl 1000),(1,.mem (dHi hh)),(7,.d (.int .i64 hh.ch.length)),(8,.d (.int .i64 k))],[(1000,rowZ (intsN k))],[1000,1]⟩)
  (fun k=>k≤hh.ch.length) (fun k=>hh.ch.length-k) 0 (Nat.zero_le _) ?_ ?_
 ·refine (Wk.pubF 1 rfl rfl).trans ((Wk.row0 (s:=3) (k:=1000) (e:=3) (sz:=1) (f':=fun _=>[]) rfl rfl (by simp)).trans (Wk.of _ hfn rfl ?_ ?_))
  ·simp only [dHi,slH,slC,enb,vcd,↓vcp,seval]
  ·simp only [rowZ,enb,vcd,↓vcp,seval];exact OLe.row rfl (fun i hi=>absurd hi (Nat.not_lt_zero i))
 intro k hk
 have il:=intsN_len k
 by_cases hlt:k<hh.ch.length
 ·have d0:decide ((k:Int)<(hh.ch.length:Int))=true:=decide_eq_true (by omega)
  have w1:IntKind.i64.wrap ((k:Int)+1)=((k+1:Nat):Int):=wS (by omega)
  simp only [rowZ,d0,vcd,↓vcp,seval]
  repeat' first|refine ⟨fun h=>?_,fun h=>?_⟩|refine aX ?_|fail
  refine lopK.on (k+1) (by omega) (by omega) ((Wk.sw 14 1000 _ hfn (by simp) (by simp)).trans (Wk.of _ hfn rfl (by simp only [w1,enb,vcd,↓vcp,seval]) ?_))
  simp only [rowZ,intsN_succ,enb,vcd,↓vcp,seval]
  exact OLe.app1 (fun n:Int=>[.int .i64 n]) (fun i hi=>by simp [hi]) (by simp [litRow])
 ·have d0:decide ((k:Int)<(hh.ch.length:Int))=false:=decide_eq_false (by omega)
  obtain rfl:k=hh.ch.length:=by omega
  have cc:=(sSortSt (cmpOC hh) (intsN hh.ch.length) (fun x hx=>by
   simp only [intsN,List.mem_map,List.mem_range] at hx
   obtain ⟨k,hk,rfl⟩:=hx
   exact ⟨by omega,by omega⟩) (by rw [intsN_len];omega)).sw 900 1000
  simp only [rowZ,fnO,vcd,↓vcp,seval] at cc
  simp only [rowZ,d0,vcd,↓vcp,seval]
  repeat' first|refine ⟨fun h=>?_,fun h=>?_⟩|refine aX ?_|fail
  refine TR.call [(1000,rowZ (intsN hh.ch.length))] [(1000,rowZ (orderC hh.ch))] _ [] (by rw [hP];exact cc) (by repeat' first|exact trivial|(intro _;assumption)|apply And.intro) (hin1 rfl) (by simp [keysO]) (by simp) ?_
  simp only [rowZ,vcd,↓vcp,seval]
  repeat' first|refine ⟨fun h=>?_,fun h=>?_⟩|refine aX ?_|fail
  refine rK (Wk.pub 1000 rfl) trivial ?_
  simp only [rsb,vcd,↓vcp,seval]
  exact VLe.refl _
end Go.Proofs.YtmccbkekpjgdbaaGreat
end
section
namespace Go.Proofs.YtmccbkekpjgdbaaGreat
open Go.Bx
set_option maxRecDepth 10000
def doesS (s:Sl) (c:Ch):Sl:=
 if c.kd=1 then { s with rk:=c.rk } else if c.kd=2 then { s with cv:=c.cv } else if c.kd=3 then { s with on:=false } else if c.kd=4 then { s with on:=true } else s
theorem sDoes (s:Sl) (h:Ch) (hl:h.cv.length≤1000000):Ctr Tryz.prog 73 [.own 1 0,vCh h] [(1,.fix (cSl s))] (.tup []) [(1,.fix (cSl (doesS s h)))] []:=by
 refine qO Tryz.func73 ?_
 intro c hP hfn
 have hr:h.kd=1∨h.kd=2∨h.kd=3∨h.kd=4∨(¬ h.kd=1∧¬ h.kd=2∧¬ h.kd=3∧¬ h.kd=4):=by omega
 have n2:((2:Int) == 1)=false:=rfl
 have n3:((3:Int) == 1)=false:=rfl
 have n4:((4:Int) == 1)=false:=rfl
 have n5:((3:Int) == 2)=false:=rfl
 have n6:((4:Int) == 2)=false:=rfl
 have n7:((4:Int) == 3)=false:=rfl
 rcases hr with e1|e1|e1|e1|⟨e1,e2,e3,e4⟩
 ·have hd:doesS s h={ s with rk:=h.rk }:=by simp [doesS,e1]
  rw [hd]
  simp only [namesL,V.names,ownNames,vCh,cCh,cSl,slC,e1,vcd,↓vcp,seval]
  repeat' first|refine ⟨fun h=>?_,fun h=>?_⟩|refine aX ?_|fail
  all_goals
   refine rK' (Wk.refl _ _) ?_
   simp only [enb,vcd,↓vcp,seval]
 ·have hd:doesS s h={ s with cv:=h.cv }:=by simp [doesS,e1]
  rw [hd]
  have hb:h.cv.length*40≤140737488355328∧h.cv.length≤maxLen:=⟨by omega,by simp only [maxLen];omega⟩
  simp only [namesL,V.names,ownNames,vCh,cCh,cSl,slC,e1,n2,vcd,↓vcp,seval]
  repeat' first|refine ⟨fun h=>?_,fun h=>?_⟩|refine aX ?_|fail
  all_goals
   refine rK' (Wk.pub 24 rfl) ?_
   simp only [enb,vcd,↓vcp,seval]
 ·have hd:doesS s h={ s with on:=false }:=by simp [doesS,e1]
  rw [hd]
  simp only [namesL,V.names,ownNames,vCh,cCh,cSl,slC,e1,n3,n5,vcd,↓vcp,seval]
  repeat' first|refine ⟨fun h=>?_,fun h=>?_⟩|refine aX ?_|fail
  all_goals
   refine rK' (Wk.refl _ _) ?_
   simp only [enb,vcd,↓vcp,seval]
 ·have hd:doesS s h={ s with on:=true }:=by simp [doesS,e1]
  rw [hd]
  simp only [namesL,V.names,ownNames,vCh,cCh,cSl,slC,e1,n4,n6,n7,vcd,↓vcp,seval]
  repeat' first|refine ⟨fun h=>?_,fun h=>?_⟩|refine aX ?_|fail
  all_goals
   refine rK' (Wk.refl _ _) ?_
   simp only [enb,vcd,↓vcp,seval]
 ·have hd:doesS s h=s:=by simp [doesS,e1,e2,e3,e4]
  have m1:(h.kd == 1)=false:=beq_false_of_ne e1
  have m2:(h.kd == 2)=false:=beq_false_of_ne e2
  have m3:(h.kd == 3)=false:=beq_false_of_ne e3
  have m4:(h.kd == 4)=false:=beq_false_of_ne e4
  rw [hd]
  simp only [namesL,V.names,ownNames,vCh,cCh,cSl,slC,m1,m2,m3,m4,vcd,↓vcp,seval]
  repeat' first|refine ⟨fun h=>?_,fun h=>?_⟩|refine aX ?_|fail
  all_goals
   refine rK' (Wk.refl _ _) ?_
   simp only [enb,vcd,↓vcp,seval]
def rowS (l:List Sl):Go.Bx.Own:=.row 112 9 l.length (fun i=>dSl (l.getD i default))
def endB (now:Sl) (out:List Sl) (d:Int):Bool:=decide (0<out.length)&&holdsS (out.getD (out.length-1) default) { now with st:=d }
def endO (now:Sl) (out:List Sl) (d:Int):List Sl:=
 if now.sf=d then out else if endB now out d=true then out.set (out.length-1) { (out.getD (out.length-1) default) with st:=d } else out++[{ now with st:=d }]
theorem sEnd0 (now:Sl) (out:List Sl) (d:Int) (ho:out.length≤1000000) (hc:∀ s,s∈out→s.cv.length≤1000000) (h:now.sf=d∨endB now out d=true) :
  Ctr Tryz.prog 70 [.d (.int .i64 d),.own 901 0,.own 902 0] [(901,.fix (cSl now)),(902,.fix [.osl 1000]),(1000,rowS out)] (.tup []) [(901,.fix (cSl { now with sf:=d })),(902,.fix [.osl 1000]),(1000,rowS (endO now out d))] []:=by
 refine qO Tryz.func70 ?_
 intro c hP hfn
 by_cases h1:now.sf=d
 ·have e:endO now out d=out:=by rw [endO,if_pos h1]
  have d0:(now.sf == d)=true:=beq_iff_eq.2 h1
  rw [e]
  simp only [namesL,V.names,ownNames,cSl,slC,rowS,dSl,d0,vcd,↓vcp,seval]
  repeat' first|refine ⟨fun h=>?_,fun h=>?_⟩|refine aX ?_|fail
  refine rK' (Wk.refl _ _) ?_
  simp only [enb,vcd,↓vcp,seval]
 ·have hb:=h.resolve_left h1
  have e:endO now out d=out.set (out.length-1) { (out.getD (out.length-1) default) with st:=d }:=by rw [endO,if_neg h1,if_pos hb]
  have d0:(now.sf == d)=false:=beq_false_of_ne h1
  simp only [endB,Bool.and_eq_true,decide_eq_true_eq] at hb
  have w1:IntKind.i64.wrap ((out.length:Int)-1)=((out.length-1:Nat):Int):=(wI (by omega)).trans (by omega)
  obtain ⟨x,hx,hxm⟩:∃ x,(∀ d,out.getD (out.length-1) d=x)∧x∈out:=by
   obtain ⟨x,-,hg,hm,-⟩:=drop_at (l:=out) (k:=out.length-1) (by omega)
   exact ⟨x,hg,hm⟩
  rw [hx] at hb e
  have d1:decide (((out.length-1:Nat):Int)≥0)=true:=decide_eq_true (by omega)
  have cc:=sHolds x { now with st:=d } (by have:=hc x hxm;omega)
  rw [hb.2] at cc
  simp only [vSl,cSl,slC] at cc
  have b1:(0:Int)≤((out.length-1:Nat):Int)∧((out.length-1:Nat):Int)<(out.length:Int):=by omega
  rw [e]
  simp only [namesL,V.names,ownNames,cSl,slC,rowS,dSl,d0,w1,d1,hx,vcd,↓vcp,seval]
  repeat' first|(refine tq hP (h:=⟨_,fun _=>by exact cc,?_⟩);try simp only [d0,w1,d1,hx,vcd,↓vcp,seval])|refine ⟨fun h=>?_,fun h=>?_⟩|refine aX ?_|fail
  refine rK' (Wk.refl _ _) ?_
  simp only [enb,vcd,↓vcp,seval]
  refine OLe.row (by rw [List.length_set]) fun i hi=>?_
  have hgi:(out.set (out.length-1) { x with st:=d }).getD i default=if i=out.length-1 then { x with st:=d } else out.getD i default:=by
   simp only [List.getD_eq_getElem?_getD,List.getElem?_set]
   by_cases hi2:out.length-1=i
   ·rw [if_pos hi2,if_pos (by omega),if_pos hi2.symm];rfl
   ·rw [if_neg hi2,if_neg (fun h=>hi2 h.symm)]
  rw [hgi]
  by_cases hi2:i=out.length-1
  ·rw [if_pos hi2,if_pos hi2]
   simp [putD]
  ·rw [if_neg hi2,if_neg hi2]
theorem sEnd1 (now:Sl) (out:List Sl) (d:Int) (ho:out.length≤1000000) (hc:∀ s,s∈out→s.cv.length≤1000000) (h:¬ (now.sf=d∨endB now out d=true)) :
  Ctr Tryz.prog 70 [.d (.int .i64 d),.own 901 0,.own 902 0] [(901,.fix (cSl now)),(902,.fix [.osl 1000]),(1000,rowS out)] (.tup []) [(901,.fix (cSl { now with sf:=d })),(902,.fix [.osl 1001]),(1001,rowS (endO now out d))] [1001]:=by
 refine qO Tryz.func70 ?_
 intro c hP hfn
 have h1:¬ now.sf=d:=fun e=>h (.inl e)
 have hb:¬ endB now out d=true:=fun e=>h (.inr e)
 have e:endO now out d=out++[{ now with st:=d }]:=by rw [endO,if_neg h1,if_neg hb]
 have d0:(now.sf == d)=false:=beq_false_of_ne h1
 have hroom:(out.length+1)*88≤140737488355328∧out.length+1≤maxLen:=⟨by omega,by simp only [maxLen];omega⟩
 by_cases h0:out.length=0
 ·have w1:IntKind.i64.wrap ((out.length:Int)-1)=-1:=(wI (by omega)).trans (by omega)
  have d1:decide ((-1:Int)≥0)=false:=rfl
  rw [e]
  simp only [namesL,V.names,ownNames,cSl,slC,rowS,dSl,d0,w1,d1,vcd,↓vcp,seval]
  refine TR.gp (gc:=false) (res:=.d (.bool false)) hP rfl (fun h=>by cases h) (fun h=>by cases h) ?_
  simp only [d0,w1,d1,vcd,↓vcp,seval]
  repeat' first|refine ⟨fun h=>?_,fun h=>?_⟩|refine aX ?_|fail
  refine rK' (Wk.sw 16 1001 _ hfn (by simp [namesL,V.names,ownNames,rowS,cSl]) (by simp [namesL,V.names,ownNames,rowS,cSl])) ?_
  simp only [rowS,cSl,slC,dSl,enb,vcd,↓vcp,seval]
  exact OLe.app1 dSl (fun i hi=>by simp [hi,dSl,slC]) (by simp [dSl,slC,litRow])
 ·have w1:IntKind.i64.wrap ((out.length:Int)-1)=((out.length-1:Nat):Int):=(wI (by omega)).trans (by omega)
  obtain ⟨x,hx,hxm⟩:∃ x,(∀ d,out.getD (out.length-1) d=x)∧x∈out:=by
   obtain ⟨x,-,hg,hm,-⟩:=drop_at (l:=out) (k:=out.length-1) (by omega)
   exact ⟨x,hg,hm⟩
  rw [e]
  rw [endB,hx] at hb
  have hb2:holdsS x { now with st:=d }=false:=by
   cases hq:holdsS x { now with st:=d } with
   |false=>rfl
   |true=>rw [hq,decide_eq_true (by omega:0<out.length)] at hb;exact absurd rfl hb
  have d1:decide (((out.length-1:Nat):Int)≥0)=true:=decide_eq_true (by omega)
  have cc:=sHolds x { now with st:=d } (by have:=hc x hxm;omega)
  rw [hb2] at cc
  simp only [vSl,cSl,slC] at cc
  have b1:(0:Int)≤((out.length-1:Nat):Int)∧((out.length-1:Nat):Int)<(out.length:Int):=by omega
  simp only [namesL,V.names,ownNames,cSl,slC,rowS,dSl,d0,w1,d1,hx,vcd,↓vcp,seval]
  repeat' first|(refine tq hP (h:=⟨_,fun _=>by exact cc,?_⟩);try simp only [d0,w1,d1,hx,vcd,↓vcp,seval])|refine ⟨fun h=>?_,fun h=>?_⟩|refine aX ?_|fail
  refine rK' (Wk.sw 16 1001 _ hfn (by simp [namesL,V.names,ownNames,rowS,cSl]) (by simp [namesL,V.names,ownNames,rowS,cSl])) ?_
  simp only [rowS,cSl,slC,dSl,enb,vcd,↓vcp,seval]
  exact OLe.app1 dSl (fun i hi=>by simp [hi,dSl,slC]) (by simp [dSl,slC,litRow])
end Go.Proofs.YtmccbkekpjgdbaaGreat
end
section
namespace Go.Proofs.YtmccbkekpjgdbaaGreat
open Go.Bx
set_option maxRecDepth 10000
theorem hin3 {own:List (Nat×Go.Bx.Own)} {k1 k2 k3:Nat} {o1 o2 o3:Go.Bx.Own} (h1:own? own k1=some o1) (h2:own? own k2=some o2) (h3:own? own k3=some o3):∀ k' o',(k',o')∈[(k1,o1),(k2,o2),(k3,o3)]→own? own k'=some o':=fun k' o' hm=>by
 simp only [List.mem_cons,Prod.mk.injEq,List.not_mem_nil,or_false] at hm
 rcases hm with ⟨rfl,rfl⟩|⟨rfl,rfl⟩|⟨rfl,rfl⟩
 ·exact h1
 ·exact h2
 ·exact h3
def stepCut (ch:List Ch) (x:Sl×List Sl) (i:Int):Sl×List Sl:=(doesS { x.1 with sf:=(ch.getD i.toNat default).dy } (ch.getD i.toNat default),endO x.1 x.2 (ch.getD i.toNat default).dy)
def cut0 (h:Hi):Sl×List Sl:=(⟨h.tm.sf,0,true,h.tm.rk,h.tm.cv,0⟩,[])
def cutK (h:Hi) (k:Nat):Sl×List Sl:=((orderC h.ch).take k).foldl (stepCut h.ch) (cut0 h)
def cutS (h:Hi):List Sl:=endO (cutK h h.ch.length).1 (cutK h h.ch.length).2 h.tm.st
structure CutI (k:Nat) (x:Sl×List Sl):Prop where
 len:x.2.length≤k
 now:x.1.cv.length≤1000000
 cv:∀ s,s∈x.2→s.cv.length≤1000000
theorem endO_len (now:Sl) (out:List Sl) (d:Int):(endO now out d).length≤out.length+1:=by
 unfold endO
 split
 ·omega
 ·split
  ·simp
  ·simp
theorem endO_cv {now:Sl} {out:List Sl} {d:Int} (h1:now.cv.length≤1000000) (h2:∀ s,s∈out→s.cv.length≤1000000):∀ s,s∈endO now out d→s.cv.length≤1000000:=by
 unfold endO
 split
 ·exact h2
 ·split
  ·rename_i hb
   simp only [endB,Bool.and_eq_true,decide_eq_true_eq] at hb
   intro s hs
   rcases List.mem_or_eq_of_mem_set hs with h|h
   ·exact h2 s h
   ·obtain ⟨x,-,hg,hm,-⟩:=drop_at (l:=out) (k:=out.length-1) (by omega)
    rw [h,hg];exact h2 x hm
  ·intro s hs
   rcases List.mem_append.1 hs with h|h
   ·exact h2 s h
   ·rw [List.mem_singleton.1 h];exact h1
theorem doesS_cv {s:Sl} {c:Ch} (h1:s.cv.length≤1000000) (h2:c.cv.length≤1000000):(doesS s c).cv.length≤1000000:=by
 unfold doesS
 split
 ·exact h1
 ·split
  ·exact h2
  ·split
   ·exact h1
   ·split<;>exact h1
theorem CutI.step {h:Hi} (hc:∀ c,c∈h.ch→c.cv.length≤1000000) {k:Nat} {x:Sl×List Sl} (hx:CutI k x) {i:Int} (hi:okH h.ch i):CutI (k+1) (stepCut h.ch x i):=by
 obtain ⟨c,-,hg,hm,-⟩:=drop_at (l:=h.ch) (k:=i.toNat) (by have:=hi.1;have:=hi.2;omega)
 refine ⟨?_,?_,?_⟩
 ·have:=endO_len x.1 x.2 (h.ch.getD i.toNat default).dy
  have:=hx.len
  simp only [stepCut];omega
 ·simp only [stepCut];rw [hg];exact doesS_cv hx.now (hc c hm)
 ·simp only [stepCut];exact endO_cv hx.now hx.cv
theorem cutK_ok {h:Hi} (ht:h.tm.cv.length≤1000000) (hc:∀ c,c∈h.ch→c.cv.length≤1000000):∀ k,CutI k (cutK h k)
 |0=>⟨Nat.le_refl _,ht,fun s hs=>by simp [cutK,cut0] at hs⟩
 |k+1=>by
  by_cases hk:k<(orderC h.ch).length
  ·obtain ⟨x,hd,hg,hm,he⟩:=drop_at hk
   have:cutK h (k+1)=stepCut h.ch (cutK h k) x:=by rw [cutK,List.take_add_one,he,List.foldl_append];rfl
   rw [this]
   exact (cutK_ok ht hc k).step hc (orderC_ok _ x hm)
  ·have:cutK h (k+1)=cutK h k:=by rw [cutK,cutK,List.take_of_length_le (by omega),List.take_of_length_le (by omega)]
   rw [this]
   have:=cutK_ok ht hc k
   exact ⟨by have:=this.len;omega,this.now,this.cv⟩
structure SzC (h:Hi):Prop where
 t:h.tm.cv.length≤1000000
 n:h.ch.length≤18
 c:∀ c,c∈h.ch→c.cv.length≤1000000
set_option maxHeartbeats 2000000 in
theorem sCut (hh:Hi) (z:SzC hh):Ctr Tryz.prog 36 [vHi hh] [] (.osl 7) [(7,rowS (cutS hh))] [7]:=by
 have co:=sOrderC hh (by have:=z.n;omega)
 simp only [vHi,cHi,slC,slH,dCh] at co
 have hb:hh.tm.cv.length*40≤140737488355328∧hh.tm.cv.length≤maxLen:=⟨by have:=z.t;omega,by have:=z.t;simp only [maxLen];omega⟩
 have hol:=orderC_len hh.ch
 refine qO Tryz.func36 ?_
 intro c hP hfn
 replace hfn:c.fn=[]:=hfn
 simp only [namesL,V.names,ownNames,vHi,cHi,slC,slH,dCh,vcd,↓vcp,seval]
 repeat' first|(refine tq hP (h:=⟨_,fun _=>by exact co,?_⟩);try simp only [vcd,↓vcp,seval])|refine ⟨fun h=>?_,fun h=>?_⟩|refine aX ?_|fail
 refine vcC.loop (X:=Nat) (fun k=>⟨[(1,.mem (dHi hh)),(3,.own 3 0),(4,.own 4 0),(5,.own 5 0),(6,.fn (.func 70) [] [.own 4 0,.own 5 0]),(26,.d (slK .i64 (orderC hh.ch))),(27,.d (.int .i64 (orderC hh.ch).length)),(28,.d (.int .i64 k))],[(3,.fix [.d (.int .i64 hh.tm.sf),.d (.int .i64 hh.tm.st)]),(4,.fix (cSl (cutK hh k).1)),(5,.fix [.osl 1000]),(1000,rowS (cutK hh k).2)],[1,3,4,5,1000]⟩)
  (fun k=>k≤(orderC hh.ch).length) (fun k=>(orderC hh.ch).length-k) 0 (Nat.zero_le _) ?_ ?_
 ·refine (Wk.pubF 1 rfl rfl).trans ((Wk.pub 22 rfl).trans ((Wk.row0F 5 0 1000 112 9 (fun _=>[]) rfl rfl (by simp)).trans (Wk.of _ hfn rfl ?_ ?_)))
  ·simp only [dHi,slH,slC,dCh,enb,vcd,↓vcp,seval]
  ·simp only [rowS,cutK,cut0,cSl,slC,List.foldl_nil,enb,vcd,↓vcp,seval]
   exact OLe.row rfl (fun i hi=>absurd hi (Nat.not_lt_zero i))
 intro k hk
 have hI:=cutK_ok z.t z.c k
 by_cases hlt:k<(orderC hh.ch).length
 ·obtain ⟨i,hd,hg,hm,he⟩:=drop_at hlt
  have hi:=orderC_ok _ i hm
  obtain ⟨h1,h2⟩:=hi
  obtain ⟨c',hd',hg',hm',-⟩:=drop_at (l:=hh.ch) (k:=i.toNat) (by omega)
  have hS:cutK hh (k+1)=stepCut hh.ch (cutK hh k) i:=by rw [cutK,List.take_add_one,he,List.foldl_append];rfl
  have hS2:stepCut hh.ch (cutK hh k) i=(doesS { (cutK hh k).1 with sf:=c'.dy } c',endO (cutK hh k).1 (cutK hh k).2 c'.dy):=by rw [stepCut,hg']
  rw [hS2] at hS
  have hfin:∀ st:St,Wk c st ⟨[(1,.mem (dHi hh)),(3,.own 3 0),(4,.own 4 0),(5,.own 5 0),(6,.fn (.func 70) [] [.own 4 0,.own 5 0]),(26,.d (slK .i64 (orderC hh.ch))),(27,.d (.int .i64 (orderC hh.ch).length)),(28,.d (.int .i64 ((k+1:Nat):Int)))],[(3,.fix [.d (.int .i64 hh.tm.sf),.d (.int .i64 hh.tm.st)]),(4,.fix (cSl (doesS { (cutK hh k).1 with sf:=c'.dy } c'))),(5,.fix [.osl 1000]),(1000,rowS (endO (cutK hh k).1 (cutK hh k).2 c'.dy))],[1,3,4,5,1000]⟩→Wk c st ⟨[(1,.mem (dHi hh)),(3,.own 3 0),(4,.own 4 0),(5,.own 5 0),(6,.fn (.func 70) [] [.own 4 0,.own 5 0]),(26,.d (slK .i64 (orderC hh.ch))),(27,.d (.int .i64 (orderC hh.ch).length)),(28,.d (.int .i64 ((k+1:Nat):Int)))],[(3,.fix [.d (.int .i64 hh.tm.sf),.d (.int .i64 hh.tm.st)]),(4,.fix (cSl (cutK hh (k+1)).1)),(5,.fix [.osl 1000]),(1000,rowS (cutK hh (k+1)).2)],[1,3,4,5,1000]⟩:=fun st h=>by rw [hS];exact h
  have dc:=(sDoes { (cutK hh k).1 with sf:=c'.dy } c' (z.c c' hm')).sw 1 4
  have d0:decide ((k:Int)<((orderC hh.ch).length:Int))=true:=decide_eq_true (by omega)
  have w1:IntKind.i64.wrap ((k:Int)+1)=((k+1:Nat):Int):=wS (by have:=z.n;omega)
  generalize cutK hh k=x at *
  obtain ⟨now,out⟩:=x
  have hl:out.length≤k:=hI.len
  have hn:=z.n
  simp only [vCh,cCh,cSl,slC,vcd,↓vcp,seval] at dc
  by_cases hb:now.sf=c'.dy∨endB now out c'.dy=true
  ·have ec:=((sEnd0 now out c'.dy (by omega) hI.cv hb).sw 901 4).sw 902 5
   simp only [rowS,cSl,slC,vcd,↓vcp,seval] at ec
   simp only [dHi,slH,dCh,slC,cSl,rowS,hg,hg',d0,vcd,↓vcp,seval]
   repeat' first|refine ⟨fun h=>?_,fun h=>?_⟩|refine aX ?_|fail
   refine TR.callv [(4,.fix (cSl now)),(5,.fix [.osl 1000]),(1000,rowS out)] [(4,.fix (cSl { now with sf:=c'.dy })),(5,.fix [.osl 1000]),(1000,rowS (endO now out c'.dy))] _ [] rfl (by rw [hP];exact ec) trivial (by repeat' first|exact trivial|(intro _;assumption)|apply And.intro) (hin3 rfl rfl rfl) (by simp [keysO]) (by simp) ?_
   simp only [hg,hg',cSl,slC,rowS,vcd,↓vcp,seval]
   repeat' first|refine ⟨fun h=>?_,fun h=>?_⟩|refine aX ?_|fail
   refine TR.call [(4,.fix (cSl { now with sf:=c'.dy }))] [(4,.fix (cSl (doesS { now with sf:=c'.dy } c')))] _ [] (by rw [hP];exact dc) (by repeat' first|exact trivial|(intro _;assumption)|apply And.intro) (hin1 rfl) (by simp [keysO]) (by simp) ?_
   simp only [w1,cSl,slC,vcd,↓vcp,seval]
   repeat' first|refine ⟨fun h=>?_,fun h=>?_⟩|refine aX ?_|fail
   refine lopK.on (k+1) hlt (by omega) (hfin _ (Wk.of _ hfn rfl (by simp only [dHi,slH,dCh,slC,w1,enb,vcd,↓vcp,seval]) (by simp only [rowS,cSl,slC,enb,vcd,↓vcp,seval])))
  ·have ec:=((((sEnd1 now out c'.dy (by omega) hI.cv hb).sw 901 4).sw 902 5))
   simp only [rowS,cSl,slC,vcd,↓vcp,seval] at ec
   simp only [dHi,slH,dCh,slC,cSl,rowS,hg,hg',d0,vcd,↓vcp,seval]
   repeat' first|refine ⟨fun h=>?_,fun h=>?_⟩|refine aX ?_|fail
   refine TR.callv [(4,.fix (cSl now)),(5,.fix [.osl 1000]),(1000,rowS out)] [(4,.fix (cSl { now with sf:=c'.dy })),(5,.fix [.osl 1001]),(1001,rowS (endO now out c'.dy))] _ [1001] rfl (by rw [hP];exact ec) trivial (by repeat' first|exact trivial|(intro _;assumption)|apply And.intro) (hin3 rfl rfl rfl) (by simp [keysO]) (by simp) ?_
   simp only [hg,hg',cSl,slC,rowS,vcd,↓vcp,seval]
   repeat' first|refine ⟨fun h=>?_,fun h=>?_⟩|refine aX ?_|fail
   refine TR.call [(4,.fix (cSl { now with sf:=c'.dy }))] [(4,.fix (cSl (doesS { now with sf:=c'.dy } c')))] _ [] (by rw [hP];exact dc) (by repeat' first|exact trivial|(intro _;assumption)|apply And.intro) (hin1 rfl) (by simp [keysO]) (by simp) ?_
   simp only [w1,cSl,slC,vcd,↓vcp,seval]
   repeat' first|refine ⟨fun h=>?_,fun h=>?_⟩|refine aX ?_|fail
   refine lopK.on (k+1) hlt (by omega) (hfin _ ((Wk.sw 1001 1000 _ hfn (by simp) (by simp)).trans (Wk.of _ hfn rfl (by simp only [dHi,slH,dCh,slC,w1,enb,vcd,↓vcp,seval]) (by simp only [rowS,cSl,slC,enb,vcd,↓vcp,seval]))))
 ·have d0:decide ((k:Int)<((orderC hh.ch).length:Int))=false:=decide_eq_false (by omega)
  have hkn:k=hh.ch.length:=by omega
  subst hkn
  have hC:cutS hh=endO (cutK hh hh.ch.length).1 (cutK hh hh.ch.length).2 hh.tm.st:=rfl
  rw [hC]
  generalize cutK hh hh.ch.length=x at *
  obtain ⟨now,out⟩:=x
  have hl:out.length≤hh.ch.length:=hI.len
  have hn:=z.n
  by_cases hb:now.sf=hh.tm.st∨endB now out hh.tm.st=true
  ·have ec:=((sEnd0 now out hh.tm.st (by omega) hI.cv hb).sw 901 4).sw 902 5
   simp only [rowS,cSl,slC,vcd,↓vcp,seval] at ec
   simp only [dHi,slH,dCh,slC,cSl,rowS,d0,vcd,↓vcp,seval]
   repeat' first|refine ⟨fun h=>?_,fun h=>?_⟩|refine aX ?_|fail
   refine TR.callv [(4,.fix (cSl now)),(5,.fix [.osl 1000]),(1000,rowS out)] [(4,.fix (cSl { now with sf:=hh.tm.st })),(5,.fix [.osl 1000]),(1000,rowS (endO now out hh.tm.st))] _ [] rfl (by rw [hP];exact ec) trivial (by repeat' first|exact trivial|(intro _;assumption)|apply And.intro) (hin3 rfl rfl rfl) (by simp [keysO]) (by simp) ?_
   simp only [cSl,slC,rowS,vcd,↓vcp,seval]
   repeat' first|refine ⟨fun h=>?_,fun h=>?_⟩|refine aX ?_|fail
   refine rK (Wk.sw 1000 7 _ hfn (by simp) (by simp)) ?_
   simp only [rowS,enb,vcd,↓vcp,seval]
  ·have ec:=((sEnd1 now out hh.tm.st (by omega) hI.cv hb).sw 901 4).sw 902 5
   simp only [rowS,cSl,slC,vcd,↓vcp,seval] at ec
   simp only [dHi,slH,dCh,slC,cSl,rowS,d0,vcd,↓vcp,seval]
   repeat' first|refine ⟨fun h=>?_,fun h=>?_⟩|refine aX ?_|fail
   refine TR.callv [(4,.fix (cSl now)),(5,.fix [.osl 1000]),(1000,rowS out)] [(4,.fix (cSl { now with sf:=hh.tm.st })),(5,.fix [.osl 1001]),(1001,rowS (endO now out hh.tm.st))] _ [1001] rfl (by rw [hP];exact ec) trivial (by repeat' first|exact trivial|(intro _;assumption)|apply And.intro) (hin3 rfl rfl rfl) (by simp [keysO]) (by simp) ?_
   simp only [cSl,slC,rowS,vcd,↓vcp,seval]
   repeat' first|refine ⟨fun h=>?_,fun h=>?_⟩|refine aX ?_|fail
   refine rK (Wk.sw 1001 7 _ hfn (by simp) (by simp)) ?_
   simp only [rowS,enb,vcd,↓vcp,seval]
end Go.Proofs.YtmccbkekpjgdbaaGreat
end
section
namespace Go.Proofs.YtmccbkekpjgdbaaGreat
open Go.Bx
set_option maxRecDepth 10000
theorem pCloneC (l:List Cv) (hl:l.length≤1000000):Ctr Tryz.prog 81 [.d (slC l)] [] (.d (slC l)) [] []:=by
 have hb:l.length*40≤140737488355328∧l.length≤maxLen:=⟨by omega,by simp only [maxLen];omega⟩
 refine qP Tryz.func81 fun c hP hfn=>?_;simp only [slC,vcd,↓vcp,seval]
 refine ⟨fun h=>?_,?_⟩
 ·refine rp ?_
  simp only [h,rsb,vcd,↓vcp,seval]
  exact VLe.nil rfl (fun h=>by cases h)
 ·repeat' first|refine ⟨fun h=>?_,fun h=>?_⟩|refine aX ?_|fail
  refine rK (Wk.pub 7 rfl) trivial ?_
  simp only [rsb,enb,vcd,↓vcp,seval]
theorem pCloneB (l:List (Int×Int)) (hl:l.length≤1000000):Ctr Tryz.prog 118 [.d (slB l)] [] (.d (slB l)) [] []:=by
 have hb:l.length*16≤140737488355328∧l.length≤maxLen:=⟨by omega,by simp only [maxLen];omega⟩
 refine qP Tryz.func118 fun c hP hfn=>?_;simp only [slB,vcd,↓vcp,seval]
 refine ⟨fun h=>?_,?_⟩
 ·refine rp ?_
  simp only [h,rsb,vcd,↓vcp,seval]
  exact VLe.nil rfl (fun h=>by cases h)
 ·repeat' first|refine ⟨fun h=>?_,fun h=>?_⟩|refine aX ?_|fail
  refine rK (Wk.pub 7 rfl) trivial ?_
  simp only [rsb,enb,vcd,↓vcp,seval]
theorem pCloneI (l:List Int) (hl:l.length≤1000000):Ctr Tryz.prog 119 [.d (slK .i64 l)] [] (.d (slK .i64 l)) [] []:=by
 have hb:l.length*8≤140737488355328∧l.length≤maxLen:=⟨by omega,by simp only [maxLen];omega⟩
 refine qP Tryz.func119 fun c hP hfn=>?_;simp only [slK,vcd,↓vcp,seval]
 refine ⟨fun h=>?_,?_⟩
 ·refine rp ?_
  simp only [h,rsb,vcd,↓vcp,seval]
  exact VLe.nil rfl (fun h=>by cases h)
 ·repeat' first|refine ⟨fun h=>?_,fun h=>?_⟩|refine aX ?_|fail
  refine rK (Wk.pub 7 rfl) trivial ?_
  simp only [rsb,enb,vcd,↓vcp,seval]
structure SzV (v:Vs):Prop where
 age:v.age.length≤1000000
 zn:v.zn.length≤1000000
 pr:v.pr.length≤1000000
theorem SzV.short {v:Vs} (h:SzV v):ShortV v:=⟨by have:=h.age;omega,by have:=h.zn;omega,by have:=h.pr;omega⟩
theorem sOwnV (v:Vs) (hv:SzV v):Ctr Tryz.prog 69 [vV v] [] (vV v) [] []:=by
 have c1:=pCloneB v.age hv.age
 have c2:=pCloneI v.zn hv.zn
 have c3:=pCloneI v.pr hv.pr
 simp only [slB,slK] at c1 c2 c3
 refine qP Tryz.func69 fun c hP hfn=>?_;simp only [vV,cV,slB,slK,vcd,↓vcp,seval]
 repeat' first|(refine tq hP (h:=⟨_,fun _=>by first|exact c1|exact c2|exact c3,?_⟩);try simp only [vcd,↓vcp,seval])|refine ⟨fun h=>?_,fun h=>?_⟩|refine aX ?_|fail
 exact rr
theorem sOwnT (t:Tm) (ht:t.cv.length≤1000000):Ctr Tryz.prog 82 [vTm t] [] (vTm t) [] []:=by
 have c1:=pCloneC t.cv ht
 simp only [slC] at c1
 refine qP Tryz.func82 fun c hP hfn=>?_;simp only [vTm,cTm,slC,vcd,↓vcp,seval]
 repeat' first|(refine tq hP (h:=⟨_,fun _=>by exact c1,?_⟩);try simp only [vcd,↓vcp,seval])|refine ⟨fun h=>?_,fun h=>?_⟩|refine aX ?_|fail
 exact rr
def dVs (v:Vs):List D:=[.int .i64 v.fr,.int .i64 v.b0,.int .i64 v.b1,.int .i64 v.b2,.int .i64 v.b3,slB v.age,slK .i64 v.zn,slK .i64 v.pr,.int .i64 v.mn]
def slV (l:List Vs):D:=.sl false 9 l.length (fun i=>dVs (l.getD i default))
theorem sBackV (l:List Vs):Ctr Tryz.prog 68 [.d (slV l)] [] (.fn (.func 117) [] [.mem [slV l]]) [] []:=by
 refine qP Tryz.func68 fun c hP hfn=>?_;simp only [slV,vcd,↓vcp,seval]
 repeat' first|refine ⟨fun h=>?_,fun h=>?_⟩|refine aX ?_|fail
 exact RetK.mk _ (Wk.pubF 1 rfl rfl) (by simp only [rsb,vcd,↓vcp,seval]) (by simp only [rsb,enb,vcd,↓vcp,seval]) trivial
def bkArgs (l:List Vs) (k:Nat):List V:=[.d (.int .i64 ((l.length-1-k:Nat):Int)),vV (l.getD (l.length-1-k) default)]
theorem it_backV (l:List Vs) (hl:l.length≤1000000):IterC Tryz.prog 117 [.mem [slV l]] (bkArgs l) l.length:=by
 refine iter_of_vc Tryz.func117 ok117 rfl cc117 cr117 (by simp only [Tryz.ntmps117,List.length_cons,List.length_nil];decide) rfl (fun _=>rfl) ?_
 intro c l' T stop Z hP _ hZ hT hT' hY
 have w1:IntKind.i64.wrap ((l.length:Int)-1)=(l.length:Int)-1:=wI (by omega)
 simp only [kc117,slV,w1,vcd,↓vcp,seval]
 refine vcC.loop (X:=Nat) (fun k=>⟨[(0,.fn (.yield l') [] []),(1,.mem [slV l]),(3,.d (.int .i64 ((l.length:Int)-1-(k:Int))))],[]++Z k,[]++keysO (Z k)⟩)
  (fun k=>k≤l.length∧k≤T∧(stop=true→k<T)) (fun k=>l.length-k) 0 ⟨Nat.zero_le _,Nat.zero_le _,fun h=>(hT' h).1⟩ (Wk.ofZ hZ rfl 0 (own:=[]) (nm:=[]) rfl rfl (by simp only [slV,w1,enb,vcd,↓vcp,seval];omega) (by simp only [enb,vcd,↓vcp,seval]) (fun n o hm=>mem_own? (hZ.nodup 0) hm)) ?_
 rintro k ⟨hk,hkT,hks⟩
 by_cases hlt:k<l.length
 ·have d0:decide ((l.length:Int)-1-(k:Int)≥0)=true:=decide_eq_true (by omega)
  have e0:(l.length:Int)-1-(k:Int)=((l.length-1-k:Nat):Int):=by omega
  have e1:IntKind.i64.wrap (((l.length-1-k:Nat):Int)-1)=(l.length:Int)-1-((k+1:Nat):Int):=(wI (by omega)).trans (by omega)
  have b1:(0:Int)≤((l.length-1-k:Nat):Int)∧((l.length-1-k:Nat):Int)<(l.length:Int):=by omega
  have hlT:k<T:=by
   cases hst:stop with
   |true=>exact hks hst
   |false=>rw [hT hst];exact hlt
  rw [e0] at d0
  simp only [slV,dVs,e0,d0,vcd,↓vcp,seval]
  repeat' first|refine ⟨fun h=>?_,fun h=>?_⟩|refine aX ?_|fail
  refine TR.yield hZ rfl (hY k hlT) (own:=[]) (nm:=[]) rfl rfl rfl trivial (by simp only [bkArgs,vV,cV,slV,slB,vcd,↓vcp,seval]) (by simp only [vcd,↓vcp,seval]) ?_
  simp only [vcd,↓vcp,seval]
  refine ⟨fun hg=>?_,fun hg=>?_⟩
  ·have hT1:T=k+1:=by
    simp [goAt] at hg
    have:=hks hg.2
    omega
   subst hT1
   exact IterK.mk _ (Wk.refl _ _) (OwnLe.of fun n o hm=>⟨o,mem_own? (hZ.nodup (k+1)) hm,OLe.refl o⟩)
  ·have hg':k+1<T∨stop=false:=by
    simp [goAt] at hg
    by_cases h9:k+1<T
    ·exact .inl h9
    ·exact .inr (hg (by omega))
   simp only [e1,vcd,↓vcp,seval]
   refine lopK.on (k+1) ⟨hlt,hlT,fun h=>hg'.resolve_right (by rw [h];simp)⟩ (by omega) (Wk.ofZ hZ rfl (k+1) (own:=[]) (nm:=[]) rfl rfl (by simp only [slV,e1,enb,vcd,↓vcp,seval]) (by simp only [enb,vcd,↓vcp,seval]) (fun n o hm=>mem_own? (hZ.nodup (k+1)) hm))
 ·have hkl:k=l.length:=by omega
  have hst:stop=false:=by
   cases hst:stop with
   |false=>rfl
   |true=>have:=hks hst;have:=(hT' hst).2;omega
  have hTk:T=k:=by rw [hT hst,hkl]
  have d0:decide ((l.length:Int)-1-(k:Int)≥0)=false:=decide_eq_false (by omega)
  simp only [d0,vcd,↓vcp,seval]
  repeat' first|refine ⟨fun h=>?_,fun h=>?_⟩|refine aX ?_|fail
  rw [hTk]
  exact IterK.mk' _ (Wk.refl _ _) (OwnLe.of fun n o hm=>⟨o,mem_own? (hZ.nodup k) hm,OLe.refl o⟩)
def atV (l:List Vs) (d:Int):Option Vs:=l.reverse.find? (fun v=>decide (v.fr≤d))
def zV:Vs:=⟨0,0,0,0,0,[],[],[],0⟩
def atO (o:Option Vs):Vs:=o.getD zV
def atE (o:Option Vs):Int:=if o.isSome then 0 else 7
def zVs:List V:=[.d (.int .i64 0),.d (.int .i64 0),.d (.int .i64 0),.d (.int .i64 0),.d (.int .i64 0),.d (.sl true 0 0 fun _=>[]),.d (.sl true 0 0 fun _=>[]),.d (.sl true 0 0 fun _=>[]),.d (.int .i64 0)]
theorem bk_at {l:List Vs} {k:Nat} (h:k<l.length):l.reverse[k]?=some (l.getD (l.length-1-k) default):=by
 rw [List.getElem?_reverse h,List.getD_eq_getElem?_getD]
 have:l.length-1-k<l.length:=by omega
 rw [List.getElem?_eq_getElem this];rfl
theorem find_or {X:Type} (p:X→Bool):∀ (l:List X),(∃ (k:Nat) (x:X),l[k]?=some x∧p x=true∧l.find? p=some x∧∀ (j:Nat) (y:X),j<k→l[j]?=some y→p y=false)∨(l.find? p=none∧∀ (j:Nat) (y:X),l[j]?=some y→p y=false)
 |[]=>.inr ⟨rfl,fun j y h=>by simp at h⟩
 |a::l=>by
  cases ha:p a with
  |true=>exact .inl ⟨0,a,rfl,ha,by rw [List.find?_cons,ha],fun j y h=>absurd h (Nat.not_lt_zero j)⟩
  |false =>
   rcases find_or p l with ⟨k,x,h1,h2,h3,h4⟩|⟨h1,h2⟩
   ·refine .inl ⟨k+1,x,h1,h2,by rw [List.find?_cons,ha];exact h3,fun j y hj hy=>?_⟩
    cases j with
    |zero=>simp at hy;subst hy;exact ha
    |succ j=>exact h4 j y (by omega) (by simpa using hy)
   ·refine .inr ⟨by rw [List.find?_cons,ha];exact h1,fun j y hy=>?_⟩
    cases j with
    |zero=>simp at hy;subst hy;exact ha
    |succ j=>exact h2 j y (by simpa using hy)
def atOw (d:Int) (cs:List V):List (Nat×Go.Bx.Own):=[(3,.fix [.d (.int .i64 d)]),(4,.fix cs),(5,.fix [.d (.int .i64 0)])]
def atO1 (d:Int) (v:Vs) (cs:List V):List (Nat×Go.Bx.Own):=[(3,.fix [.d (.int .i64 d)]),(4,.fix cs),(5,.fix [.d (.int .i64 0)]),(7,.fix (cV v))]
def atEn (l:List Vs):List (Nat×V):=[(3,.own 3 0),(4,.own 4 0),(5,.own 5 0),(10,.fn (.func 117) [] [.mem [slV l]])]
def atE1:List (Nat×V):=[(3,.own 3 0),(4,.own 4 0),(5,.own 5 0),(7,.own 7 0)]
theorem at_cli (d:Int) (cs:Nat→List V) (h:∀ k,namesL (cs k)=[]):CliO [3,4,5] (fun k=>atOw d (cs k)):=by
 refine ⟨fun k=>by simp [atOw,keysO],fun k n hn=>?_,fun k n hn=>by simpa [atOw,keysO] using hn⟩
 simp only [atOw,ownNames,namesL,V.names,h,List.append_nil,List.nil_append] at hn
 simpa [atOw,keysO] using hn
theorem at_cli1 (d:Int) (v:Nat→Vs) (cs:Nat→List V) (h:∀ k,namesL (cs k)=[]):CliO [3,4,5] (fun k=>atO1 d (v k) (cs k)):=by
 refine ⟨fun k=>by simp [atO1,keysO],fun k n hn=>?_,fun k n hn=>?_⟩
 ·simp only [atO1,cV,ownNames,namesL,V.names,h,List.append_nil,List.nil_append] at hn
  simpa [atO1,keysO] using hn
 ·simp only [List.mem_cons,List.not_mem_nil,or_false] at hn
  rcases hn with h|h|h<;>simp [atO1,keysO,h]
theorem env_names {l:List (Nat×V)} {NF:List Nat} (h:∀ s y,(s,y)∈l→∀ n,n∈y.names→n∈NF):∀ s n,n∈(Go.Bx.get l s).names→n∈NF:=by
 induction l with
 |nil=>intro s n hn;simp [Go.Bx.get,V.names] at hn
 |cons p l ih =>
  obtain ⟨s',y⟩:=p
  intro s n hn
  simp only [Go.Bx.get] at hn
  split at hn
  ·exact h s' y (by simp) n hn
  ·exact ih (fun s y hm=>h s y (by simp [hm])) s n hn
theorem at_env (l:List Vs):∀ s n,n∈(Go.Bx.get (atEn l) s).names→n∈[3,4,5]:=env_names fun s y hm n hn=>by
 simp only [atEn,List.mem_cons,Prod.mk.injEq,List.not_mem_nil,or_false] at hm
 rcases hm with ⟨rfl,rfl⟩|⟨rfl,rfl⟩|⟨rfl,rfl⟩|⟨rfl,rfl⟩<;>simp [V.names,namesL] at hn ⊢<;>simp [hn]
set_option maxHeartbeats 1000000 in
theorem sAtV (l:List Vs) (d:Int) (hl:l.length≤1000000) (hz:∀ v,v∈l→SzV v):Ctr Tryz.prog 35 [.ag [.d (slV l)],.d (.int .i64 d)] [] (.tup [vV (atO (atV l d)),.d (.int .i64 (atE (atV l d)))]) [] []:=by
 have cb:=sBackV l
 simp only [slV,dVs] at cb
 refine qT Tryz.func35 fun c hP hfn hrd=>?_;simp only [slV,dVs,vcd,↓vcp,seval]
 repeat' first|(refine tq hP (h:=⟨_,fun _=>by exact cb,?_⟩);try simp only [vcd,↓vcp,seval])|refine ⟨fun h=>?_,fun h=>?_⟩|refine aX ?_|fail
 have hI:=it_backV l hl
 rw [←hP] at hI
 have hv:∀ k,k<l.length→l.reverse[k]?=some (l.getD (l.length-1-k) default):=fun k hk=>bk_at hk
 have hmem:∀ k,k<l.length→l.getD (l.length-1-k) default∈l:=fun k hk=>by
  obtain ⟨x,-,hg,hm,-⟩:=drop_at (l:=l) (k:=l.length-1-k) (by omega)
  rw [hg];exact hm
 rcases find_or (fun v:Vs=>decide (v.fr≤d)) l.reverse with ⟨K,x,h1,h2,h3,h4⟩|⟨h3,h4⟩
 ·have hK:K<l.length:=by have:=(List.getElem?_eq_some_iff.1 h1).1;simpa using this
  have hx:l.getD (l.length-1-K) default=x:=by have:=hv K hK;rw [h1] at this;injection this with this;exact this.symm
  have hat:atV l d=some x:=h3
  have hcs:∀ k,namesL (if k=K+1 then cV x else zVs)=[]:=fun k=>by split<;>simp [cV,zVs,namesL,V.names]
  refine vcC.rfnJ hI (K+1) (some .ret) (atEn l) [3,4,5] (fun k=>atOw d (if k=K+1 then cV x else zVs)) (fun k=>atO1 d (l.getD (l.length-1-k) default) zVs) (fun _=>atE1) ?_ rfl trivial
   ⟨hrd,at_cli d _ hcs,at_cli1 d _ _ (fun _=>by simp [zVs,namesL,V.names]),fun n hn=>(by rw [hfn] at hn;cases hn),at_env l,rfl,fun _=>rfl,fun _=>rfl,fun h=>(by cases h),fun _=>⟨by omega,by omega⟩,fun h=>(by cases h)⟩ ?_ ?_ (fun h=>by cases h) ?_
  ·refine Wk.of (b:=⟨atEn l,atOw d zVs,[3,4,5]⟩) _ hfn rfl ?_ ?_
   ·simp only [atEn,slV,dVs,slB,enb,vcd,↓vcp,seval]
   ·simp only [atOw,zVs,enb,vcd,↓vcp,seval]
  ·intro k hk cB hPB hfB
   have hne:¬ k=K+1:=by omega
   simp only [setPs,bkArgs,vV,cV,atOw,atEn,zVs,hne,if_false,vcd,↓vcp,seval]
   rw [rfnA_nrm]
   refine Wk.of (b:=⟨atE1,atO1 d (l.getD (l.length-1-k) default) zVs,[3,4,5,7]⟩) _ hfB rfl ?_ ?_
   ·simp only [atE1,enb,vcd,↓vcp,seval]
   ·simp only [atO1,zVs,cV,enb,vcd,↓vcp,seval]
  ·intro k hk cB hPB hfB
   have hP:=hPB.trans hP
   by_cases hkK:k=K
   ·subst hkK
    have hg:goAt (k+1) (some Ex.ret).isSome k=false:=by simp [goAt]
    have d0:decide (x.fr≤d)=true:=h2
    have co:=sOwnV x (hz x (by rw [←hx];exact hmem k hK))
    simp only [vV,cV,slB] at co
    simp only [hg,hx,if_true]
    simp only [atO1,atE1,atOw,cV,slB,zVs,d0,vcd,↓vcp,seval]
    repeat' first|(refine tq hP (h:=⟨_,fun _=>by exact co,?_⟩);try simp only [d0,vcd,↓vcp,seval])|refine ⟨fun h=>?_,fun h=>?_⟩|refine aX ?_|fail
    all_goals
     exact Wk.of (b:=⟨[],atOw d (cV x),[3,4,5]⟩) _ hfB rfl (by simp only [enb,vcd,↓vcp,seval]) (by simp only [atOw,cV,slB,enb,vcd,↓vcp,seval])
   ·have hg:goAt (K+1) (some Ex.ret).isSome k=true:=by simp [goAt];omega
    have hne:¬ k+1=K+1:=by omega
    obtain ⟨y,hy⟩:∃ y,l.getD (l.length-1-k) default=y:=⟨_,rfl⟩
    have d0:decide (y.fr≤d)=false:=by rw [←hy];exact h4 k _ (by omega) (hv k (by omega))
    simp only [hg,hy,hne,if_false]
    simp only [atO1,atE1,atOw,cV,slB,zVs,d0,vcd,↓vcp,seval]
    repeat' first|refine ⟨fun h=>?_,fun h=>?_⟩|refine aX ?_|fail
    all_goals
     exact Wk.of (b:=⟨[],atOw d zVs,[3,4,5]⟩) _ hfB rfl (by simp only [enb,vcd,↓vcp,seval]) (by simp only [atOw,zVs,enb,vcd,↓vcp,seval])
  ·intro e he
   injection he with he
   subst he
   simp only [if_true,atEn,atOw,cV,hat,atO,atE,Option.getD_some,Option.isSome_some,vcd,↓vcp,seval]
   refine rp ?_
   simp only [vV,cV,rsb,enb,vcd,↓vcp,seval]
 ·have hat:atV l d=none:=h3
  refine vcC.rfnAll hI (atEn l) [3,4,5] (fun k=>atOw d zVs) (fun k=>atO1 d (l.getD (l.length-1-k) default) zVs) (fun _=>atE1) ?_ rfl trivial
   ⟨hrd,at_cli d _ (fun _=>by simp [zVs,namesL,V.names]),at_cli1 d _ _ (fun _=>by simp [zVs,namesL,V.names]),fun n hn=>(by rw [hfn] at hn;cases hn),at_env l,rfl,fun _=>rfl,fun _=>rfl,fun _=>rfl,fun h=>absurd rfl h,fun h=>(by cases h)⟩ ?_ ?_ ?_
  ·refine Wk.of (b:=⟨atEn l,atOw d zVs,[3,4,5]⟩) _ hfn rfl ?_ ?_
   ·simp only [atEn,slV,dVs,slB,enb,vcd,↓vcp,seval]
   ·simp only [atOw,zVs,enb,vcd,↓vcp,seval]
  ·intro k hk cB hPB hfB
   simp only [setPs,bkArgs,vV,cV,atOw,atEn,zVs,vcd,↓vcp,seval]
   rw [rfnA_nrm]
   refine Wk.of (b:=⟨atE1,atO1 d (l.getD (l.length-1-k) default) zVs,[3,4,5,7]⟩) _ hfB rfl ?_ ?_
   ·simp only [atE1,enb,vcd,↓vcp,seval]
   ·simp only [atO1,zVs,cV,enb,vcd,↓vcp,seval]
  ·intro k hk cB hPB hfB
   obtain ⟨y,hy⟩:∃ y,l.getD (l.length-1-k) default=y:=⟨_,rfl⟩
   have d0:decide (y.fr≤d)=false:=by rw [←hy];exact h4 k _ (hv k hk)
   simp only [hy]
   simp only [atO1,atE1,atOw,cV,slB,zVs,d0,vcd,↓vcp,seval]
   repeat' first|refine ⟨fun h=>?_,fun h=>?_⟩|refine aX ?_|fail
   all_goals
    exact Wk.of (b:=⟨[],atOw d zVs,[3,4,5]⟩) _ hfB rfl (by simp only [enb,vcd,↓vcp,seval]) (by simp only [atOw,zVs,enb,vcd,↓vcp,seval])
  ·simp only [atEn,atOw,zVs,hat,atO,atE,vcd,↓vcp,seval]
   refine rp ?_
   simp only [vV,cV,rsb,enb,vcd,↓vcp,seval]
   have nl:∀ {sz:Nat} {f g:Nat→List D},VLe (.d (.sl true 0 0 g)) (.d (.sl false sz 0 f)):=VLe.nil rfl (fun h=>by cases h)
   exact VLe.tups ⟨VLe.ags ⟨VLe.refl _,VLe.refl _,VLe.refl _,VLe.refl _,VLe.refl _,nl,nl,nl,VLe.refl _,trivial⟩,VLe.refl _,trivial⟩
end Go.Proofs.YtmccbkekpjgdbaaGreat
end
section
namespace Go.Proofs.YtmccbkekpjgdbaaGreat
open Go.Bx
set_option maxRecDepth 10000
def mapP (v:Vs) (s:Sl):Sl:=if s.on=true then { s with yr:=(yearR v s.rk s.cv).1 } else s
def errP (v:Vs):List Sl→Int
 |[]=>0
 |s::r=>if s.on=true∧(yearR v s.rk s.cv).2≠0 then (yearR v s.rk s.cv).2 else errP v r
def ofS (h:Hi) (t:List Vs):List Sl×Int:=
 if rightHi h=false then ([],1) else
  match atV t h.tm.sf with
  |none=>([],7)
  |some v=>if errP v (cutS h)=0 then ((cutS h).map (mapP v),0) else ([],errP v (cutS h))
theorem cutS_ok {h:Hi} (z:SzC h):(cutS h).length≤h.ch.length+1∧∀ s,s∈cutS h→s.cv.length≤1000000:=by
 have hI:=cutK_ok z.t z.c h.ch.length
 refine ⟨?_,endO_cv hI.now hI.cv⟩
 have h1:=endO_len (cutK h h.ch.length).1 (cutK h h.ch.length).2 h.tm.st
 have h2:=hI.len
 simp only [cutS];omega
theorem SzC.hi {h:Hi} (z:SzC h):SzHi h:=⟨by have:=z.t;omega,by have:=z.n;omega,fun c hc=>by have:=z.c c hc;omega⟩
def upK (v:Vs) (l:List Sl) (k:Nat):List Sl:=(l.take k).map (mapP v)++l.drop k
theorem upK_len (v:Vs) (l:List Sl) (k:Nat):(upK v l k).length=l.length:=by simp [upK];omega
theorem upK_get {v:Vs} {l:List Sl} {k i:Nat} (hi:i<l.length):(upK v l k).getD i default=if i<k then mapP v (l.getD i default) else l.getD i default:=by
 simp only [upK,List.getD_eq_getElem?_getD,List.getElem?_append,List.length_map,List.length_take]
 by_cases h:i<k
 ·rw [if_pos (by omega),if_pos h,List.getElem?_map,List.getElem?_take_of_lt h,List.getElem?_eq_getElem hi];rfl
 ·rw [if_neg (by omega),if_neg h,List.getElem?_drop]
  congr 2;omega
set_option maxHeartbeats 2000000 in
theorem sOfS (hh:Hi) (t:List Vs) (z:SzC hh) (ht:t.length≤1000000) (hz:∀ v,v∈t→SzV v):Ctr Tryz.prog 14 [vHi hh,.ag [.d (slV t)]] [] (.tup [.d (slS (ofS hh t).1),.d (.int .i64 (ofS hh t).2)]) [] []:=by
 have cr:=sRightHi hh z.hi
 have ca:=sAtV t hh.tm.sf ht hz
 have cc:=(sCut hh z).sw 7 1000
 obtain ⟨hl1,hl2⟩:=cutS_ok z
 have hn:=z.n
 simp only [vHi,cHi,slC,slH,dCh] at cr
 simp only [vHi,cHi,slC,slH,dCh,rowS,vcd,↓vcp,seval] at cc
 simp only [slV,dVs,vV,cV,slB] at ca
 have nl:∀ {sz:Nat} {f g:Nat→List D},VLe (.d (.sl true 0 0 g)) (.d (.sl false sz 0 f)):=VLe.nil rfl (fun h=>by cases h)
 cases hr:rightHi hh with
 |false =>
  have e:ofS hh t=([],1):=by rw [ofS,if_pos hr]
  rw [hr] at cr
  rw [e]
  refine qP Tryz.func14 fun c hP hfn=>?_;simp only [vHi,cHi,slC,slH,dCh,slV,dVs,slB,vcd,↓vcp,seval]
  repeat' first|(refine tq hP (h:=⟨_,fun _=>by exact cr,?_⟩);try simp only [vcd,↓vcp,seval])|refine ⟨fun h=>?_,fun h=>?_⟩|refine aX ?_|fail
  refine rp ?_
  simp only [rsb,vcd,↓vcp,seval]
  exact VLe.tups ⟨nl,VLe.refl _,trivial⟩
 |true =>
  rw [hr] at cr
  cases hat:atV t hh.tm.sf with
  |none =>
   have e:ofS hh t=([],7):=by rw [ofS,if_neg (by rw [hr];simp),hat]
   have n0:((7:Int) != 0)=true:=rfl
   rw [hat] at ca
   simp only [atO,atE,Option.getD_none,Option.isSome_none,Bool.false_eq_true,if_false] at ca
   rw [e]
   refine qP Tryz.func14 fun c hP hfn=>?_;simp only [vHi,cHi,slC,slH,dCh,slV,dVs,slB,vcd,↓vcp,seval]
   repeat' first|(refine tq hP (h:=⟨_,fun _=>by first|exact cr|exact ca,?_⟩);try simp only [n0,vcd,↓vcp,seval])|refine ⟨fun h=>?_,fun h=>?_⟩|refine aX ?_|fail
   refine rp ?_
   simp only [rsb,vcd,↓vcp,seval]
   exact VLe.tups ⟨nl,VLe.refl _,trivial⟩
  |some v =>
   have hvz:SzV v:=hz v (by
    have:=List.mem_of_find?_eq_some hat
    simpa using this)
   have e:ofS hh t=if errP v (cutS hh)=0 then ((cutS hh).map (mapP v),0) else ([],errP v (cutS hh)):=by rw [ofS,if_neg (by rw [hr];simp),hat]
   have n0:((0:Int) != 0)=false:=rfl
   rw [hat] at ca
   simp only [atO,atE,Option.getD_some,Option.isSome_some,if_true] at ca
   rw [e]
   generalize cutS hh=L at *
   refine qP Tryz.func14 fun c hP hfn=>?_;simp only [vHi,cHi,slC,slH,dCh,slV,dVs,slB,vcd,↓vcp,seval]
   repeat' first|(refine tq hP (h:=⟨_,fun _=>by first|exact cr|exact ca,?_⟩);try simp only [n0,vcd,↓vcp,seval])|refine ⟨fun h=>?_,fun h=>?_⟩|refine aX ?_|fail
   refine TR.call [] [(1000,rowS L)] (.osl 1000) [1000] (by rw [hP];exact cc) (by repeat' first|exact trivial|(intro _;assumption)|apply And.intro) (fun k o h=>by simp at h) (by simp [keysO]) (by simp) ?_
   simp only [rowS,n0,vcd,↓vcp,seval]
   repeat' first|refine ⟨fun h=>?_,fun h=>?_⟩|refine aX ?_|fail
   refine vcC.loop (X:=Nat) (fun k=>⟨[(6,.own 6 0),(8,.osl 1000),(28,.osl 1000),(29,.d (.int .i64 L.length)),(30,.d (.int .i64 k))],[(6,.fix (cV v)),(1000,rowS (upK v L k))],[6,1000]⟩)
    (fun k=>k≤L.length∧errP v L=errP v (L.drop k)) (fun k=>L.length-k) 0 ⟨Nat.zero_le _,rfl⟩ (Wk.of _ hfn rfl (by simp only [enb,vcd,↓vcp,seval]) (by simp only [cV,slB,rowS,enb,vcd,↓vcp,seval];exact OLe.row (upK_len v L 0).symm (fun i hi=>by rw [upK_get hi,if_neg (Nat.not_lt_zero i)]))) ?_
   clear cr ca cc
   rintro k ⟨hk,he⟩
   have hul:=upK_len v L k
   by_cases hlt:k<L.length
   ·obtain ⟨s,hd,hg,hm,-⟩:=drop_at hlt
    have d0:decide ((k:Int)<(L.length:Int))=true:=decide_eq_true (by omega)
    have w1:IntKind.i64.wrap ((k:Int)+1)=((k+1:Nat):Int):=wS (by omega)
    have hgk:(upK v L k).getD k default=s:=by rw [upK_get hlt,if_neg (Nat.lt_irrefl k),hg]
    have b1:(0:Int)≤(k:Int)∧(k:Int)<((upK v L k).length:Int):=by omega
    have cy:=sYear v s.rk s.cv hvz.short (by have:=hl2 s hm;omega)
    simp only [vV,cV,slB,vR,cR,slC] at cy
    rw [hd,errP] at he
    cases hon:s.on with
    |false =>
     have hrow:∀ i,i<(upK v L k).length→dSl ((upK v L k).getD i default)=dSl ((upK v L (k+1)).getD i default):=fun i hi=>by
      rw [hul] at hi
      rw [upK_get hi,upK_get hi]
      by_cases h1:i<k
      ·rw [if_pos h1,if_pos (by omega)]
      ·rw [if_neg h1]
       by_cases h2:i=k
       ·subst h2;rw [if_pos (by omega),hg,mapP,if_neg (by rw [hon];simp)]
       ·rw [if_neg (by omega)]
     have he2:errP v L=errP v (L.drop (k+1)):=by rw [he,if_neg (by rw [hon];simp)]
     simp only [rowS,dSl,cV,slB,slC,d0,hgk,hon,vcd,↓vcp,seval]
     repeat' first|refine ⟨fun h=>?_,fun h=>?_⟩|refine aX ?_|fail
     refine lopK.on (k+1) ⟨hlt,he2⟩ (by omega) (Wk.of _ hfn rfl (by simp only [w1,enb,vcd,↓vcp,seval]) ?_)
     simp only [cV,slB,rowS,enb,vcd,↓vcp,seval]
     exact OLe.row (by rw [hul,upK_len]) hrow
    |true =>
     obtain ⟨y,e1,hy⟩:∃ y e,yearR v s.rk s.cv=(y,e):=⟨_,_,rfl⟩
     rw [hy] at cy he
     simp only at cy he
     by_cases h0:e1=0
     ·subst h0
      have he2:errP v L=errP v (L.drop (k+1)):=by rw [he,if_neg (by simp)]
      simp only [rowS,dSl,cV,slB,slC,d0,hgk,hon,vcd,↓vcp,seval]
      repeat' first|(refine tq hP (h:=⟨_,fun _=>by exact cy,?_⟩);try simp only [d0,hgk,hon,w1,n0,vcd,↓vcp,seval])|refine ⟨fun h=>?_,fun h=>?_⟩|refine aX ?_|fail
      refine lopK.on (k+1) ⟨hlt,he2⟩ (by omega) (Wk.of _ hfn rfl (by simp only [w1,enb,vcd,↓vcp,seval]) ?_)
      simp only [cV,slB,rowS,enb,vcd,↓vcp,seval]
      refine OLe.row (by rw [hul,upK_len]) (fun i hi=>?_)
      rw [hul] at hi
      rw [upK_get (k:=k+1) hi]
      by_cases h2:i=k
      ·subst h2
       rw [if_pos (Nat.lt_succ_self i),hg,mapP,if_pos hon,hy]
       simp [putD,dSl,slC,hon]
      ·rw [if_neg h2,upK_get hi]
       by_cases h1:i<k
       ·rw [if_pos h1,if_pos (by omega)]
       ·rw [if_neg h1,if_neg (by omega)]
     ·have n1:(e1 != 0)=true:=bne_iff_ne.2 h0
      have he2:errP v L=e1:=by rw [he,if_pos ⟨hon,h0⟩]
      rw [he2,if_neg h0]
      simp only [rowS,dSl,cV,slB,slC,d0,hgk,hon,vcd,↓vcp,seval]
      repeat' first|(refine tq hP (h:=⟨_,fun _=>by exact cy,?_⟩);try simp only [d0,hgk,hon,w1,n1,vcd,↓vcp,seval])|refine ⟨fun h=>?_,fun h=>?_⟩|refine aX ?_|fail
      refine rp ?_
      simp only [rsb,vcd,↓vcp,seval]
      exact VLe.tups ⟨nl,VLe.refl _,trivial⟩
   ·have d0:decide ((k:Int)<(L.length:Int))=false:=decide_eq_false (by omega)
    have hkl:k=L.length:=by omega
    subst hkl
    rw [List.drop_length,errP] at he
    have hu:upK v L L.length=L.map (mapP v):=by simp [upK]
    rw [he,if_pos rfl]
    simp only [rowS,hu,d0,vcd,↓vcp,seval]
    repeat' first|refine ⟨fun h=>?_,fun h=>?_⟩|refine aX ?_|fail
    refine rK (Wk.pub 1000 rfl) trivial ?_
    simp only [rsb,vcd,↓vcp,seval]
    exact VLe.refl _
end Go.Proofs.YtmccbkekpjgdbaaGreat
end
section
namespace Go.Proofs.YtmccbkekpjgdbaaGreat
open Go.Bx
set_option maxRecDepth 10000
def zHi:Hi:=⟨0,0,⟨0,0,⟨0,0,0,0⟩,[]⟩,[]⟩
def lastB (h:Hi):Int:=if 0<h.ch.length then (h.ch.getD (h.ch.length-1) default).bk else h.bk
def putC (h:Hi) (c:Ch):Hi×Int:=
 if (rightCh c&&inT h.tm c.dy)=false then (zHi,1) else if c.bk<lastB h then (zHi,4) else if h.ch.length≥2000 then (zHi,2) else ({ h with ch:=h.ch++[c] },0)
theorem vle_nil {sz:Nat} {f g:Nat→List D}:VLe (.d (.sl true 0 0 g)) (.d (.sl false sz 0 f)):=VLe.nil rfl (fun h=>by cases h)
theorem vle_zHi {g1 g2:Nat→List D}:VLe (.ag [.d (.int .i64 0),.d (.int .i64 0),.d (.int .i64 0),.d (.int .i64 0),.d (.int .i64 0),.d (.int .i64 0),.d (.int .i64 0),.d (.int .i64 0),.d (.sl true 0 0 g1),.d (.sl true 0 0 g2)]) (vHi zHi):=
 VLe.ags ⟨VLe.refl _,VLe.refl _,VLe.refl _,VLe.refl _,VLe.refl _,VLe.refl _,VLe.refl _,VLe.refl _,vle_nil,vle_nil,trivial⟩
theorem vle_snocH {l:List Ch} {c:Ch} {F:Nat→List D} (h1:∀ i,i<l.length→F i=dCh (l.getD i default)) (h2:F l.length=dCh c):VLe (.d (.sl false 9 (l.length+1) F)) (.d (slH (l++[c]))):=
 VLe.sl (by simp) (fun _=>rfl) id fun i hi=>by
  by_cases h:i<l.length
  ·rw [h1 i h,List.getD_eq_getElem?_getD,List.getD_eq_getElem?_getD,List.getElem?_append_left h]
  ·have:i=l.length:=by omega
   subst this
   rw [h2];simp [List.getD_eq_getElem?_getD]
set_option maxHeartbeats 2000000 in
theorem sPutC (hh:Hi) (c':Ch) (ht:hh.tm.cv.length≤1000000) (hl:c'.cv.length≤1000000) (hn:hh.ch.length≤1000000):Ctr Tryz.prog 41 [vHi hh,vCh c'] [] (.tup [vHi (putC hh c').1,.d (.int .i64 (putC hh c').2)]) [] []:=by
 have cr:=sRightCh c' (by omega)
 have ci:=sIn hh.tm.sf hh.tm.st c'.dy
 have cc:=pCloneC c'.cv hl
 have co:=sOwnT hh.tm ht
 simp only [vCh,cCh,slC] at cr
 simp only [vS] at ci
 simp only [slC] at cc
 simp only [vTm,cTm,slC] at co
 have hlast:∀ {d:Ch},0<hh.ch.length→lastB hh=(hh.ch.getD (hh.ch.length-1) d).bk:=fun {d} h=>by
  obtain ⟨x,-,hg,-,-⟩:=drop_at (l:=hh.ch) (k:=hh.ch.length-1) (by omega)
  rw [lastB,if_pos h,hg,hg]
 have w1:0<hh.ch.length→IntKind.i64.wrap ((hh.ch.length:Int)-1)=((hh.ch.length-1:Nat):Int):=fun h=>(wI (by omega)).trans (by omega)
 cases hr:rightCh c' with
 |false =>
  have e:putC hh c'=(zHi,1):=by rw [putC,if_pos (by rw [hr];rfl)]
  rw [hr] at cr
  rw [e]
  by_cases h0:0<hh.ch.length
  ·have d0:decide ((hh.ch.length:Int)>0)=true:=decide_eq_true (by omega)
   have w1:=w1 h0
   have b1:(0:Int)≤((hh.ch.length-1:Nat):Int)∧((hh.ch.length-1:Nat):Int)<(hh.ch.length:Int):=by omega
   refine qP Tryz.func41 fun c hP hfn=>?_;simp only [vHi,cHi,vCh,cCh,slC,slH,dCh,d0,w1,vcd,↓vcp,seval]
   repeat' first|(refine tq hP (h:=⟨_,fun _=>by first|exact cr|exact ci,?_⟩);try simp only [d0,w1,vcd,↓vcp,seval])|refine ⟨fun h=>?_,fun h=>?_⟩|refine aX ?_|fail
   all_goals
    refine rp ?_
    simp only [rsb,vcd,↓vcp,seval]
    exact VLe.tups ⟨vle_zHi,VLe.refl _,trivial⟩
  ·have d0:decide ((hh.ch.length:Int)>0)=false:=decide_eq_false (by omega)
   refine qP Tryz.func41 fun c hP hfn=>?_;simp only [vHi,cHi,vCh,cCh,slC,slH,dCh,d0,vcd,↓vcp,seval]
   repeat' first|(refine tq hP (h:=⟨_,fun _=>by first|exact cr|exact ci,?_⟩);try simp only [d0,vcd,↓vcp,seval])|refine ⟨fun h=>?_,fun h=>?_⟩|refine aX ?_|fail
   all_goals
    refine rp ?_
    simp only [rsb,vcd,↓vcp,seval]
    exact VLe.tups ⟨vle_zHi,VLe.refl _,trivial⟩
 |true =>
 rw [hr] at cr
 cases hi:inT hh.tm c'.dy with
 |false =>
  have e:putC hh c'=(zHi,1):=by rw [putC,if_pos (by rw [hr,hi];rfl)]
  simp only [inT] at hi
  rw [hi] at ci
  rw [e]
  by_cases h0:0<hh.ch.length
  ·have d0:decide ((hh.ch.length:Int)>0)=true:=decide_eq_true (by omega)
   have w1:=w1 h0
   have b1:(0:Int)≤((hh.ch.length-1:Nat):Int)∧((hh.ch.length-1:Nat):Int)<(hh.ch.length:Int):=by omega
   refine qP Tryz.func41 fun c hP hfn=>?_;simp only [vHi,cHi,vCh,cCh,slC,slH,dCh,d0,w1,vcd,↓vcp,seval]
   repeat' first|(refine tq hP (h:=⟨_,fun _=>by first|exact cr|exact ci,?_⟩);try simp only [d0,w1,vcd,↓vcp,seval])|refine ⟨fun h=>?_,fun h=>?_⟩|refine aX ?_|fail
   all_goals
    refine rp ?_
    simp only [rsb,vcd,↓vcp,seval]
    exact VLe.tups ⟨vle_zHi,VLe.refl _,trivial⟩
  ·have d0:decide ((hh.ch.length:Int)>0)=false:=decide_eq_false (by omega)
   refine qP Tryz.func41 fun c hP hfn=>?_;simp only [vHi,cHi,vCh,cCh,slC,slH,dCh,d0,vcd,↓vcp,seval]
   repeat' first|(refine tq hP (h:=⟨_,fun _=>by first|exact cr|exact ci,?_⟩);try simp only [d0,vcd,↓vcp,seval])|refine ⟨fun h=>?_,fun h=>?_⟩|refine aX ?_|fail
   all_goals
    refine rp ?_
    simp only [rsb,vcd,↓vcp,seval]
    exact VLe.tups ⟨vle_zHi,VLe.refl _,trivial⟩
 |true =>
 have e0:putC hh c'=if c'.bk<lastB hh then (zHi,4) else if hh.ch.length≥2000 then (zHi,2) else ({ hh with ch:=hh.ch++[c'] },0):=by rw [putC,if_neg (by rw [hr,hi];simp)]
 simp only [inT] at hi
 rw [hi] at ci
 rw [e0]
 clear e0
 by_cases h0:0<hh.ch.length
 ·have d0:decide ((hh.ch.length:Int)>0)=true:=decide_eq_true (by omega)
  have w1:=w1 h0
  have b1:(0:Int)≤((hh.ch.length-1:Nat):Int)∧((hh.ch.length-1:Nat):Int)<(hh.ch.length:Int):=by omega
  rw [hlast h0 (d:=default)]
  by_cases ho:c'.bk<(hh.ch.getD (hh.ch.length-1) default).bk
  ·rw [if_pos ho]
   have dd:decide (c'.bk<(hh.ch.getD (hh.ch.length-1) default).bk)=true:=decide_eq_true ho
   refine qP Tryz.func41 fun c hP hfn=>?_;simp only [vHi,cHi,vCh,cCh,slC,slH,dCh,d0,w1,dd,vcd,↓vcp,seval]
   repeat' first|(refine tq hP (h:=⟨_,fun _=>by first|exact cr|exact ci,?_⟩);try simp only [d0,w1,dd,vcd,↓vcp,seval])|refine ⟨fun h=>?_,fun h=>?_⟩|refine aX ?_|fail
   all_goals
    refine rp ?_
    simp only [rsb,vcd,↓vcp,seval]
    exact VLe.tups ⟨vle_zHi,VLe.refl _,trivial⟩
  ·rw [if_neg ho]
   have dd:decide (c'.bk<(hh.ch.getD (hh.ch.length-1) default).bk)=false:=decide_eq_false ho
   by_cases hb:hh.ch.length≥2000
   ·rw [if_pos hb]
    have de:decide ((hh.ch.length:Int)≥2000)=true:=decide_eq_true (by omega)
    refine qP Tryz.func41 fun c hP hfn=>?_;simp only [vHi,cHi,vCh,cCh,slC,slH,dCh,d0,w1,dd,de,vcd,↓vcp,seval]
    repeat' first|(refine tq hP (h:=⟨_,fun _=>by first|exact cr|exact ci,?_⟩);try simp only [d0,w1,dd,de,vcd,↓vcp,seval])|refine ⟨fun h=>?_,fun h=>?_⟩|refine aX ?_|fail
    all_goals
     refine rp ?_
     simp only [rsb,vcd,↓vcp,seval]
     exact VLe.tups ⟨vle_zHi,VLe.refl _,trivial⟩
   ·rw [if_neg hb]
    have de:decide ((hh.ch.length:Int)≥2000)=false:=decide_eq_false (by omega)
    have hroom:(hh.ch.length+1)*88≤140737488355328∧hh.ch.length+1≤maxLen:=⟨by omega,by simp only [maxLen];omega⟩
    refine qP Tryz.func41 fun c hP hfn=>?_;simp only [vHi,cHi,vCh,cCh,slC,slH,dCh,d0,w1,dd,de,vcd,↓vcp,seval]
    repeat' first|(refine tq hP (h:=⟨_,fun _=>by first|exact cr|exact ci|exact cc|exact co,?_⟩);try simp only [d0,w1,dd,de,vcd,↓vcp,seval])|refine ⟨fun h=>?_,fun h=>?_⟩|refine aX ?_|fail
    refine rK (Wk.pub 61 rfl) trivial ?_
    simp only [rsb,vcd,↓vcp,seval]
    exact VLe.tups ⟨VLe.ags ⟨VLe.refl _,VLe.refl _,VLe.refl _,VLe.refl _,VLe.refl _,VLe.refl _,VLe.refl _,VLe.refl _,VLe.refl _,vle_snocH (fun i hi=>by simp [hi,dCh,slC]) (by simp [dCh,slC]),trivial⟩,VLe.refl _,trivial⟩
 ·have d0:decide ((hh.ch.length:Int)>0)=false:=decide_eq_false (by omega)
  rw [show lastB hh=hh.bk from if_neg h0]
  by_cases ho:c'.bk<hh.bk
  ·rw [if_pos ho]
   have dd:decide (c'.bk<hh.bk)=true:=decide_eq_true ho
   refine qP Tryz.func41 fun c hP hfn=>?_;simp only [vHi,cHi,vCh,cCh,slC,slH,dCh,d0,dd,vcd,↓vcp,seval]
   repeat' first|(refine tq hP (h:=⟨_,fun _=>by first|exact cr|exact ci,?_⟩);try simp only [d0,dd,vcd,↓vcp,seval])|refine ⟨fun h=>?_,fun h=>?_⟩|refine aX ?_|fail
   all_goals
    refine rp ?_
    simp only [rsb,vcd,↓vcp,seval]
    exact VLe.tups ⟨vle_zHi,VLe.refl _,trivial⟩
  ·rw [if_neg ho]
   have dd:decide (c'.bk<hh.bk)=false:=decide_eq_false ho
   by_cases hb:hh.ch.length≥2000
   ·rw [if_pos hb]
    have de:decide ((hh.ch.length:Int)≥2000)=true:=decide_eq_true (by omega)
    refine qP Tryz.func41 fun c hP hfn=>?_;simp only [vHi,cHi,vCh,cCh,slC,slH,dCh,d0,dd,de,vcd,↓vcp,seval]
    repeat' first|(refine tq hP (h:=⟨_,fun _=>by first|exact cr|exact ci,?_⟩);try simp only [d0,dd,de,vcd,↓vcp,seval])|refine ⟨fun h=>?_,fun h=>?_⟩|refine aX ?_|fail
    all_goals
     refine rp ?_
     simp only [rsb,vcd,↓vcp,seval]
     exact VLe.tups ⟨vle_zHi,VLe.refl _,trivial⟩
   ·rw [if_neg hb]
    have de:decide ((hh.ch.length:Int)≥2000)=false:=decide_eq_false (by omega)
    have hroom:(hh.ch.length+1)*88≤140737488355328∧hh.ch.length+1≤maxLen:=⟨by omega,by simp only [maxLen];omega⟩
    refine qP Tryz.func41 fun c hP hfn=>?_;simp only [vHi,cHi,vCh,cCh,slC,slH,dCh,d0,dd,de,vcd,↓vcp,seval]
    repeat' first|(refine tq hP (h:=⟨_,fun _=>by first|exact cr|exact ci|exact cc|exact co,?_⟩);try simp only [d0,dd,de,vcd,↓vcp,seval])|refine ⟨fun h=>?_,fun h=>?_⟩|refine aX ?_|fail
    refine rK (Wk.pub 61 rfl) trivial ?_
    simp only [rsb,vcd,↓vcp,seval]
    exact VLe.tups ⟨VLe.ags ⟨VLe.refl _,VLe.refl _,VLe.refl _,VLe.refl _,VLe.refl _,VLe.refl _,VLe.refl _,VLe.refl _,VLe.refl _,vle_snocH (fun i hi=>by simp [hi,dCh,slC]) (by simp [dCh,slC]),trivial⟩,VLe.refl _,trivial⟩
end Go.Proofs.YtmccbkekpjgdbaaGreat
end
section
namespace Go.Proofs.YtmccbkekpjgdbaaGreat
open Go.Bx
set_option maxRecDepth 10000
theorem sWithin (n f t:Int):Ctr Tryz.prog 135 [.d (.int .i64 n),.d (.int .i64 f),.d (.int .i64 t)] [] (.d (.bool (wiB n f t))) [] []:=by
 refine qP Tryz.func135 fun c hP hfn=>?_;simp only [vcd,↓vcp,seval]
 exact rr
def cCm (c:Cm):List V:=[.d (.int .i64 c.id),.d (.int .i64 c.po),.d (.int .i64 c.pe),.d (.int .i64 c.lo),.d (.int .i64 c.bk),.d (.int .i64 c.ev)]
def vCm (c:Cm):V:=.ag (cCm c)
def dAc (a:Ac):List D:=[.int .i64 a.bk,.int .i64 a.kd,.int .i64 a.am]
def vAc (a:Ac):V:=.ag [.d (.int .i64 a.bk),.d (.int .i64 a.kd),.d (.int .i64 a.am)]
def slA (l:List Ac):D:=.sl false 3 l.length (fun i=>dAc (l.getD i default))
def rowAk (l:List Ac):Go.Bx.Own:=.row 83 3 l.length (fun i=>dAc (l.getD i default))
def cFi (f:Fi):List V:=[.d (.int .i64 f.cl.id),.d (.int .i64 f.cl.po),.d (.int .i64 f.cl.pe),.d (.int .i64 f.cl.lo),.d (.int .i64 f.cl.bk),.d (.int .i64 f.cl.ev),.d (slA f.ac)]
def vFi (f:Fi):V:=.ag (cFi f)
def cQ (q:Qp):List V:=[.d (.int .i64 q.gr),.d (.int .i64 q.sh),.d (.int .i64 0),.d (.int .i64 q.bc),.d (.int .i64 0),.d (.bool q.op)]
def vQ (q:Qp):V:=.ag (cQ q)
theorem sFormedC (c':Cm):Ctr Tryz.prog 91 [vCm c'] [] (.d (.bool (formedC c'))) [] []:=by
 refine qP Tryz.func91 fun c hP hfn=>?_;simp only [vCm,cCm,vcd,↓vcp,seval]
 repeat' first|(refine tq hP (h:=⟨_,fun _=>by exact sWithin _ _ _,?_⟩);try simp only [vcd,↓vcp,seval])|refine ⟨fun h=>?_,fun h=>?_⟩|refine aX ?_|fail
 exact rr
theorem sRightA (a:Ac):Ctr Tryz.prog 167 [vAc a] [] (.d (.bool (rightA a))) [] []:=by
 refine qP Tryz.func167 fun c hP hfn=>?_;simp only [vAc,vcd,↓vcp,seval]
 repeat' first|(refine tq hP (h:=⟨_,fun _=>by exact sWithin _ _ _,?_⟩);try simp only [vcd,↓vcp,seval])|refine ⟨fun h=>?_,fun h=>?_⟩|refine aX ?_|fail
 ·(refine rq ?_;first|exact ⟨⟩|rw [rightA,mostA,if_pos h])
 ·(refine rq ?_;first|exact ⟨⟩|rw [rightA,mostA,if_neg (by rw [h];simp)])
theorem vle_fi0 {c:Cm} {g:Nat→List D}:VLe (.ag [.d (.int .i64 c.id),.d (.int .i64 c.po),.d (.int .i64 c.pe),.d (.int .i64 c.lo),.d (.int .i64 c.bk),.d (.int .i64 c.ev),.d (.sl true 0 0 g)]) (vFi ⟨c,[]⟩):=
 VLe.ags ⟨VLe.refl _,VLe.refl _,VLe.refl _,VLe.refl _,VLe.refl _,VLe.refl _,vle_nil,trivial⟩
theorem sOpenF (c':Cm):Ctr Tryz.prog 136 [vCm c'] [] (vFi ⟨c',[]⟩) [] []:=by
 refine qP Tryz.func136 fun c hP hfn=>?_;simp only [vCm,cCm,vcd,↓vcp,seval]
 repeat' first|refine ⟨fun h=>?_,fun h=>?_⟩|refine aX ?_|fail
 refine rp ?_
 simp only [rsb,vcd,↓vcp,seval]
 exact vle_fi0
theorem sPgross (q:Qp) (a:Int):Ctr Tryz.prog 170 [.own 4 0,.d (.int .i64 a)] [(4,.fix (cQ q))] (.tup []) [(4,.fix (cQ { q with gr:=a }))] []:=by
 refine qO Tryz.func170 ?_
 intro c hP hfn
 simp only [namesL,V.names,ownNames,cQ,w64,vcd,↓vcp,seval]
 repeat' first|refine ⟨fun h=>?_,fun h=>?_⟩|refine aX ?_|fail
 refine rK' (Wk.refl _ _) ?_
 simp only [enb,vcd,↓vcp,seval]
theorem sPpay (q:Qp) (a:Int):Ctr Tryz.prog 171 [.own 4 0,.d (.int .i64 a)] [(4,.fix (cQ q))] (.tup []) [(4,.fix (cQ { q with sh:=w64 (q.sh+a) }))] []:=by
 refine qO Tryz.func171 ?_
 intro c hP hfn
 simp only [namesL,V.names,ownNames,cQ,w64,vcd,↓vcp,seval]
 repeat' first|refine ⟨fun h=>?_,fun h=>?_⟩|refine aX ?_|fail
 refine rK' (Wk.refl _ _) ?_
 simp only [enb,vcd,↓vcp,seval]
theorem sPrec (q:Qp) (a:Int):Ctr Tryz.prog 172 [.own 4 0,.d (.int .i64 a)] [(4,.fix (cQ q))] (.tup []) [(4,.fix (cQ { q with bc:=w64 (q.bc+a) }))] []:=by
 refine qO Tryz.func172 ?_
 intro c hP hfn
 simp only [namesL,V.names,ownNames,cQ,w64,vcd,↓vcp,seval]
 repeat' first|refine ⟨fun h=>?_,fun h=>?_⟩|refine aX ?_|fail
 refine rK' (Wk.refl _ _) ?_
 simp only [enb,vcd,↓vcp,seval]
theorem sPclose (q:Qp) (a:Int):Ctr Tryz.prog 173 [.own 4 0,.d (.int .i64 a)] [(4,.fix (cQ q))] (.tup []) [(4,.fix (cQ { q with op:=false }))] []:=by
 refine qO Tryz.func173 ?_
 intro c hP hfn
 simp only [namesL,V.names,ownNames,cQ,w64,vcd,↓vcp,seval]
 repeat' first|refine ⟨fun h=>?_,fun h=>?_⟩|refine aX ?_|fail
 refine rK' (Wk.refl _ _) ?_
 simp only [enb,vcd,↓vcp,seval]
theorem sPreop (q:Qp) (a:Int):Ctr Tryz.prog 174 [.own 4 0,.d (.int .i64 a)] [(4,.fix (cQ q))] (.tup []) [(4,.fix (cQ { q with op:=true }))] []:=by
 refine qO Tryz.func174 ?_
 intro c hP hfn
 simp only [namesL,V.names,ownNames,cQ,w64,vcd,↓vcp,seval]
 repeat' first|refine ⟨fun h=>?_,fun h=>?_⟩|refine aX ?_|fail
 refine rK' (Wk.refl _ _) ?_
 simp only [enb,vcd,↓vcp,seval]
def fnP:List V:=[.d (.raw .nilFunc),.fn (.func 170) [] [],.fn (.func 171) [] [],.fn (.func 172) [] [],.fn (.func 173) [] [],.fn (.func 174) [] []]
def stE (l:List Ac) (k:Nat):List (Nat×V):=[(2,.own 2 0),(3,.own 3 0),(4,.own 4 0),(10,.d (slA l)),(11,.d (.int .i64 l.length)),(12,.d (.int .i64 (k:Nat)))]
def stO (q:Qp):List (Nat×Go.Bx.Own):=[(2,.fix (cQ ⟨0,0,0,false⟩)),(3,.fix fnP),(4,.fix (cQ q))]
set_option maxHeartbeats 2000000 in
theorem sStand (f:Fi) (hl:f.ac.length≤1000000):Ctr Tryz.prog 140 [vFi f] [] (vQ (posQ f.ac)) [] []:=by
 refine qP Tryz.func140 fun c hP hfn=>?_;simp only [vFi,cFi,slA,dAc,vcd,↓vcp,seval]
 repeat' first|refine ⟨fun h=>?_,fun h=>?_⟩|refine aX ?_|fail
 refine vcC.loop (X:=Nat) (fun k=>⟨stE f.ac k,stO (posQ (f.ac.take k)),[2,3,4]⟩)
  (fun k=>k≤f.ac.length) (fun k=>f.ac.length-k) 0 (Nat.zero_le _) (Wk.of _ hfn rfl (by simp only [stE,slA,dAc,enb,vcd,↓vcp,seval]) (by simp only [stO,fnP,cQ,posQ,List.take_zero,List.foldl_nil,enb,vcd,↓vcp,seval])) ?_
 intro k hk
 by_cases hlt:k<f.ac.length
 ·obtain ⟨⟨bk,kd,am⟩,-,hg,-,hat⟩:=drop_at hlt
  have hg:=hg default
  have d0:decide ((k:Int)<(f.ac.length:Int))=true:=decide_eq_true (by omega)
  have w1:IntKind.i64.wrap ((k:Int)+1)=((k+1:Nat):Int):=wS (by omega)
  have eq1:posQ (f.ac.take (k+1))=stepQ (posQ (f.ac.take k)) ⟨bk,kd,am⟩:=by
   rw [List.take_add_one,hat];exact posQ_snoc _ _
  have hr:kd=1∨kd=2∨kd=3∨kd=4∨kd=5∨(¬ kd=1∧¬ kd=2∧¬ kd=3∧¬ kd=4∧¬ kd=5):=by omega
  rcases hr with rfl|rfl|rfl|rfl|rfl|⟨e1,e2,e3,e4,e5⟩
  ·have wk:wiB 1 1 5=true:=rfl
   have cp:=sPgross (posQ (f.ac.take k)) am
   generalize posQ (f.ac.take k)=q at *
   have eq2:stepQ q ⟨bk,1,am⟩={ q with gr:=am }:=rfl
   simp only [cQ] at cp
   simp only [stE,stO,fnP,cQ,slA,dAc,hg,d0,w1,vcd,↓vcp,seval]
   repeat' first|(refine tq hP (h:=⟨_,fun _=>by exact sWithin _ _ _,?_⟩);try simp only [wk,hg,w1,vcd,↓vcp,seval])|refine ⟨fun h=>?_,fun h=>?_⟩|refine aX ?_|fail
   refine TR.cv1 (k:=4) (first:=[]) (cap:=[]) hP rfl cp (by simp only [vcd,↓vcp,seval]) (by simp only [vcd,↓vcp,seval]) rfl ?_
   simp only [w1,vcd,↓vcp,seval]
   repeat' first|refine ⟨fun h=>?_,fun h=>?_⟩|refine aX ?_|fail
   exact lopK.on (k+1) hlt (by omega) (Wk.of _ hfn rfl (by simp only [stE,slA,dAc,w1,enb,vcd,↓vcp,seval]) (by simp only [stO,eq1,eq2,fnP,cQ,enb,vcd,↓vcp,seval]))
  ·have wk:wiB 2 1 5=true:=rfl
   have cp:=sPpay (posQ (f.ac.take k)) am
   generalize posQ (f.ac.take k)=q at *
   have eq2:stepQ q ⟨bk,2,am⟩={ q with sh:=w64 (q.sh+am) }:=rfl
   simp only [cQ] at cp
   simp only [stE,stO,fnP,cQ,slA,dAc,hg,d0,w1,vcd,↓vcp,seval]
   repeat' first|(refine tq hP (h:=⟨_,fun _=>by exact sWithin _ _ _,?_⟩);try simp only [wk,hg,w1,vcd,↓vcp,seval])|refine ⟨fun h=>?_,fun h=>?_⟩|refine aX ?_|fail
   refine TR.cv1 (k:=4) (first:=[]) (cap:=[]) hP rfl cp (by simp only [vcd,↓vcp,seval]) (by simp only [vcd,↓vcp,seval]) rfl ?_
   simp only [w1,vcd,↓vcp,seval]
   repeat' first|refine ⟨fun h=>?_,fun h=>?_⟩|refine aX ?_|fail
   exact lopK.on (k+1) hlt (by omega) (Wk.of _ hfn rfl (by simp only [stE,slA,dAc,w1,enb,vcd,↓vcp,seval]) (by simp only [stO,eq1,eq2,fnP,cQ,enb,vcd,↓vcp,seval]))
  ·have wk:wiB 3 1 5=true:=rfl
   have cp:=sPrec (posQ (f.ac.take k)) am
   generalize posQ (f.ac.take k)=q at *
   have eq2:stepQ q ⟨bk,3,am⟩={ q with bc:=w64 (q.bc+am) }:=rfl
   simp only [cQ] at cp
   simp only [stE,stO,fnP,cQ,slA,dAc,hg,d0,w1,vcd,↓vcp,seval]
   repeat' first|(refine tq hP (h:=⟨_,fun _=>by exact sWithin _ _ _,?_⟩);try simp only [wk,hg,w1,vcd,↓vcp,seval])|refine ⟨fun h=>?_,fun h=>?_⟩|refine aX ?_|fail
   refine TR.cv1 (k:=4) (first:=[]) (cap:=[]) hP rfl cp (by simp only [vcd,↓vcp,seval]) (by simp only [vcd,↓vcp,seval]) rfl ?_
   simp only [w1,vcd,↓vcp,seval]
   repeat' first|refine ⟨fun h=>?_,fun h=>?_⟩|refine aX ?_|fail
   exact lopK.on (k+1) hlt (by omega) (Wk.of _ hfn rfl (by simp only [stE,slA,dAc,w1,enb,vcd,↓vcp,seval]) (by simp only [stO,eq1,eq2,fnP,cQ,enb,vcd,↓vcp,seval]))
  ·have wk:wiB 4 1 5=true:=rfl
   have cp:=sPclose (posQ (f.ac.take k)) am
   generalize posQ (f.ac.take k)=q at *
   have eq2:stepQ q ⟨bk,4,am⟩={ q with op:=false }:=rfl
   simp only [cQ] at cp
   simp only [stE,stO,fnP,cQ,slA,dAc,hg,d0,w1,vcd,↓vcp,seval]
   repeat' first|(refine tq hP (h:=⟨_,fun _=>by exact sWithin _ _ _,?_⟩);try simp only [wk,hg,w1,vcd,↓vcp,seval])|refine ⟨fun h=>?_,fun h=>?_⟩|refine aX ?_|fail
   refine TR.cv1 (k:=4) (first:=[]) (cap:=[]) hP rfl cp (by simp only [vcd,↓vcp,seval]) (by simp only [vcd,↓vcp,seval]) rfl ?_
   simp only [w1,vcd,↓vcp,seval]
   repeat' first|refine ⟨fun h=>?_,fun h=>?_⟩|refine aX ?_|fail
   exact lopK.on (k+1) hlt (by omega) (Wk.of _ hfn rfl (by simp only [stE,slA,dAc,w1,enb,vcd,↓vcp,seval]) (by simp only [stO,eq1,eq2,fnP,cQ,enb,vcd,↓vcp,seval]))
  ·have wk:wiB 5 1 5=true:=rfl
   have cp:=sPreop (posQ (f.ac.take k)) am
   generalize posQ (f.ac.take k)=q at *
   have eq2:stepQ q ⟨bk,5,am⟩={ q with op:=true }:=rfl
   simp only [cQ] at cp
   simp only [stE,stO,fnP,cQ,slA,dAc,hg,d0,w1,vcd,↓vcp,seval]
   repeat' first|(refine tq hP (h:=⟨_,fun _=>by exact sWithin _ _ _,?_⟩);try simp only [wk,hg,w1,vcd,↓vcp,seval])|refine ⟨fun h=>?_,fun h=>?_⟩|refine aX ?_|fail
   refine TR.cv1 (k:=4) (first:=[]) (cap:=[]) hP rfl cp (by simp only [vcd,↓vcp,seval]) (by simp only [vcd,↓vcp,seval]) rfl ?_
   simp only [w1,vcd,↓vcp,seval]
   repeat' first|refine ⟨fun h=>?_,fun h=>?_⟩|refine aX ?_|fail
   exact lopK.on (k+1) hlt (by omega) (Wk.of _ hfn rfl (by simp only [stE,slA,dAc,w1,enb,vcd,↓vcp,seval]) (by simp only [stO,eq1,eq2,fnP,cQ,enb,vcd,↓vcp,seval]))
  ·have wk:wiB kd 1 5=false:=by
    cases hw:wiB kd 1 5 with
    |false=>rfl
    |true=>simp only [wiB,Bool.and_eq_true,decide_eq_true_eq] at hw;omega
   have eq2:stepQ (posQ (f.ac.take k)) ⟨bk,kd,am⟩=posQ (f.ac.take k):=by simp only [stepQ,if_neg e1,if_neg e2,if_neg e3,if_neg e4,if_neg e5]
   generalize posQ (f.ac.take k)=q at *
   simp only [stE,stO,fnP,cQ,slA,dAc,hg,d0,w1,vcd,↓vcp,seval]
   repeat' first|(refine tq hP (h:=⟨_,fun _=>by exact sWithin _ _ _,?_⟩);try simp only [wk,hg,w1,vcd,↓vcp,seval])|refine ⟨fun h=>?_,fun h=>?_⟩|refine aX ?_|fail
   exact lopK.on (k+1) hlt (by omega) (Wk.of _ hfn rfl (by simp only [stE,slA,dAc,w1,enb,vcd,↓vcp,seval]) (by simp only [stO,eq1,eq2,fnP,cQ,enb,vcd,↓vcp,seval]))
 ·have hk2:k=f.ac.length:=by omega
  have d0:decide ((k:Int)<(f.ac.length:Int))=false:=decide_eq_false (by omega)
  rw [hk2,List.take_length]
  rw [hk2] at d0
  simp only [stE,stO,cQ,slA,dAc,d0,vcd,↓vcp,seval]
  repeat' first|refine ⟨fun h=>?_,fun h=>?_⟩|refine aX ?_|fail
  exact rr
def maxQ (q:Qp):Qp:={ q with gr:=max q.gr q.sh }
theorem sStandF (f:Fi) (hl:f.ac.length≤1000000):Ctr Tryz.prog 98 [vFi f] [] (vQ (maxQ (posQ f.ac))) [] []:=by
 have cs:=sStand f hl
 simp only [vFi,cFi,vQ,cQ] at cs
 refine qP Tryz.func98 fun c hP hfn=>?_;simp only [vFi,cFi,vcd,↓vcp,seval]
 repeat' first|(refine tq hP (h:=⟨_,fun _=>by exact cs,?_⟩);try simp only [vcd,↓vcp,seval])|refine ⟨fun h=>?_,fun h=>?_⟩|refine aX ?_|fail
 exact rr
theorem sLastA (f:Fi) (hl:f.ac.length≤1000000):Ctr Tryz.prog 168 [vFi f] [] (.d (.int .i64 (lastA f.cl f.ac))) [] []:=by
 by_cases h0:0<f.ac.length
 ·have d0:decide ((f.ac.length:Int)>0)=true:=decide_eq_true (by omega)
  have w1:IntKind.i64.wrap ((f.ac.length:Int)-1)=((f.ac.length-1:Nat):Int):=(wI (by omega)).trans (by omega)
  have b1:(0:Int)≤((f.ac.length-1:Nat):Int)∧((f.ac.length-1:Nat):Int)<(f.ac.length:Int):=by omega
  have e:lastA f.cl f.ac=(f.ac.getD (f.ac.length-1) default).bk:=by
   obtain ⟨x,-,hg,-,hat⟩:=drop_at (l:=f.ac) (k:=f.ac.length-1) (by omega)
   rw [lastA,List.getLast?_eq_getElem?,hat,hg]
  rw [e]
  refine qP Tryz.func168 fun c hP hfn=>?_;simp only [vFi,cFi,slA,dAc,d0,w1,vcd,↓vcp,seval]
  repeat' first|refine ⟨fun h=>?_,fun h=>?_⟩|refine aX ?_|fail
  exact rr
 ·have d0:decide ((f.ac.length:Int)>0)=false:=decide_eq_false (by omega)
  have e:lastA f.cl f.ac=f.cl.bk:=by rw [List.eq_nil_of_length_eq_zero (l:=f.ac) (by omega)];rfl
  rw [e]
  refine qP Tryz.func168 fun c hP hfn=>?_;simp only [vFi,cFi,slA,dAc,d0,vcd,↓vcp,seval]
  repeat' first|refine ⟨fun h=>?_,fun h=>?_⟩|refine aX ?_|fail
  exact rr
end Go.Proofs.YtmccbkekpjgdbaaGreat
end
