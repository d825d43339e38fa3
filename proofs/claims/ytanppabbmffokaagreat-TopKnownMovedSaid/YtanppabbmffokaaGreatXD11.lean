import Derived.Test.YtanppabbmffokaaGreatXD10
set_option linter.unusedSimpArgs false
set_option linter.unusedVariables false
section
namespace Go.Proofs.YtanppabbmffokaaGreat
open Go.Bx
def moneyB (v:Int):Bool:=decide (v≥-4000000000000000000)&&decide (v≤4000000000000000000)
def stG:Int→Int→List (Int×Int)→Bool
 |_,_,[]=>true
 |day,val,(d,v)::r=>!(decide (d≤day) || decide (d>292194) || (v == val) || !(moneyB v))&&stG d v r
def valG:Int→List (Int×Int)→Int→Int
 |cur,[],_=>cur
 |cur,(d,v)::r,day=>if d≤day then valG v r day else cur
def valS (P:List (Int×Int)) (day:Int):Int:=valG 0 P day
def pieG (f:Int→Int) (to:Int):Int→List Int→List ((Int×Int)×Int)
 |fr,[]=>[((fr,to),f fr)]
 |fr,d::r=>if d≤fr∨d≥to then pieG f to fr r else ((fr,d),f fr)::pieG f to d r
def sumG:Int→Int→List ((Int×Int)×Int)→Int×Int
 |sum,_,[]=>(sum,0)
 |sum,all,((p,q),v)::r=>if max v (-v)>(4000000000000000000-all) / (q-p) then (0,5) else sumG (sum+(q-p)*v) (all+(q-p)*max v (-v)) r
def fullB (a b:Int):Bool:=decide (a≥1)&&decide (a<b)&&decide (b≤292195)
def sumS (P:List (Int×Int)) (a b:Int):Int×Int:=if stG 0 0 P&&fullB a b then sumG 0 0 (pieG (valS P) b a (P.map (·.1))) else (0,1)
def dSum (g:Int→Int):Int→Nat→Int
 |_,0=>0
 |a,n+1=>g a+dSum g (a+1) n
theorem dSum_add (g:Int→Int):∀ (m n:Nat) (a:Int),dSum g a (m+n)=dSum g a m+dSum g (a+m) n
 |0,n,a=>by simp [dSum]
 |m+1,n,a=>by
  have e:a+((m+1:Nat):Int)=a+1+(m:Int):=by omega
  rw [show m+1+n=(m+n)+1 by omega,dSum,dSum,dSum_add g m n (a+1),e,Int.add_assoc (g a)]
theorem dSum_const {g:Int→Int} {v:Int}:∀ (n:Nat) (a:Int),(∀ d,a≤d→d<a+n→g d=v)→dSum g a n=n*v
 |0,a,_=>by simp [dSum]
 |n+1,a,h=>by
  rw [dSum,dSum_const n (a+1) (fun d h1 h2=>h d (by omega) (by omega)),h a (by omega) (by omega)]
  rw [show ((n+1:Nat):Int)=1+(n:Int) by omega,Int.add_mul,Int.one_mul]
theorem dSum_congr {g g':Int→Int}:∀ (n:Nat) (a:Int),(∀ d,a≤d→d<a+n→g d=g' d)→dSum g a n=dSum g' a n
 |0,a,_=>rfl
 |n+1,a,h=>by rw [dSum,dSum,dSum_congr n (a+1) (fun d h1 h2=>h d (by omega) (by omega)),h a (by omega) (by omega)]
theorem dSum_nonneg {g:Int→Int}:∀ (n:Nat) (a:Int),(∀ d,a≤d→d<a+n→0≤g d)→0≤dSum g a n
 |0,a,_=>Int.le_refl _
 |n+1,a,h=>by
  have h1:=h a (by omega) (by omega)
  have h2:=dSum_nonneg n (a+1) (fun d h1 h2=>h d (by omega) (by omega))
  rw [dSum];omega
theorem stG_iff:∀ {P:List (Int×Int)} {day val:Int},stG day val P=true→(∀ p,p∈P→day<p.1∧p.1≤292194∧-4000000000000000000≤p.2∧p.2≤4000000000000000000)∧P.Pairwise (fun a b=>a.1<b.1)
 |[],_,_,_=>⟨fun p hp=>by simp at hp,List.Pairwise.nil⟩
 |(d,v)::r,day,val,h=>by
  simp only [stG,moneyB,Bool.and_eq_true,Bool.not_eq_true',Bool.or_eq_false_iff,decide_eq_false_iff_not] at h
  obtain ⟨⟨⟨⟨h1,h2⟩,h3⟩,h4⟩,h5⟩:=h
  obtain ⟨i1,i2⟩:=stG_iff h5
  have hm:-4000000000000000000≤v∧v≤4000000000000000000:=by simpa using h4
  refine ⟨fun p hp=>?_,List.pairwise_cons.2 ⟨fun p hp=>(i1 p hp).1,i2⟩⟩
  rcases List.mem_cons.1 hp with rfl|hp
  ·exact ⟨by simp only;omega,by simp only;omega,hm⟩
  ·have:=i1 p hp;exact ⟨by omega,this.2⟩
theorem valG_mem:∀ {P:List (Int×Int)} {cur day:Int},valG cur P day=cur∨∃ p,p∈P∧valG cur P day=p.2
 |[],_,_=>.inl rfl
 |(d,v)::r,cur,day=>by
  rw [valG]
  split
  ·rcases valG_mem (P:=r) (cur:=v) (day:=day) with h|⟨p,h1,h2⟩
   ·exact .inr ⟨(d,v),by simp,h⟩
   ·exact .inr ⟨p,by simp [h1],h2⟩
  ·exact .inl rfl
theorem valG_same:∀ {P:List (Int×Int)} {cur a b:Int},a≤b→(∀ p,p∈P→p.1≤a∨b<p.1)→valG cur P b=valG cur P a
 |[],_,_,_,_,_=>rfl
 |(d,v)::r,cur,a,b,hab,h=>by
  have h1:=h (d,v) (by simp)
  simp only at h1
  rw [valG,valG]
  rcases h1 with h1|h1
  ·rw [if_pos (by omega),if_pos h1,valG_same hab (fun p hp=>h p (by simp [hp]))]
  ·rw [if_neg (by omega),if_neg (by omega)]
theorem valG_at:∀ {P:List (Int×Int)} {cur day:Int} (k:Nat),k≤P.length→(∀ j,j<k→(P.getD j (0,0)).1≤day)→(∀ j,k≤j→j<P.length→day<(P.getD j (0,0)).1)→valG cur P day=if k=0 then cur else (P.getD (k-1) (0,0)).2
 |[],cur,day,k,hk,_,_=>by simp at hk;subst hk;rfl
 |(d,v)::r,cur,day,0,hk,h1,h2=>by
  have:=h2 0 (Nat.le_refl _) (by simp)
  rw [valG,if_neg (by simpa using this)];rfl
 |(d,v)::r,cur,day,k+1,hk,h1,h2=>by
  have:=h1 0 (by omega)
  rw [valG,if_pos (by simpa using this),valG_at k (by simpa using hk) (fun j hj=>by simpa using h1 (j+1) (by omega)) (fun j hj hl=>by simpa using h2 (j+1) (by omega) (by simpa using hl))]
  cases k with
  |zero=>simp
  |succ k=>simp
inductive Cut (g:Int→Int):Int→Int→List ((Int×Int)×Int)→Prop
 |nil (a:Int):Cut g a a []
 |cons {a b c:Int} {l:List ((Int×Int)×Int)} (h:a<b) (hg:∀ d,a≤d→d<b→g d=g a) (hl:Cut g b c l):Cut g a c (((a,b),g a)::l)
theorem pieG_cut {P:List (Int×Int)} {to:Int}:∀ {r:List Int} {fr:Int},fr<to→r.Pairwise (·<·)→(∀ d,d∈P.map (·.1)→d≤fr∨d∈r)→Cut (valS P) fr to (pieG (valS P) to fr r)
 |[],fr,h,_,hr=>by
  refine .cons h (fun d h1 h2=>valG_same h1 fun p hp=>?_) (.nil _)
  rcases hr p.1 (List.mem_map.2 ⟨p,hp,rfl⟩) with h3|h3
  ·exact .inl h3
  ·simp at h3
 |d::r,fr,h,hp,hr=>by
  obtain ⟨p1,p2⟩:=List.pairwise_cons.1 hp
  rw [pieG]
  split
  ·rename_i h3
   rcases h3 with h3|h3
   ·refine pieG_cut h p2 (fun x hx=>?_)
    rcases hr x hx with h4|h4
    ·exact .inl h4
    ·rcases List.mem_cons.1 h4 with rfl|h4
     ·exact .inl h3
     ·exact .inr h4
   ·
    have key:∀ (r':List Int),(∀ x,x∈r'→x≥to)→pieG (valS P) to fr r'=[((fr,to),valS P fr)]:=by
     intro r'
     induction r' with
     |nil=>intro _;rfl
     |cons x r' ih=>intro hx;rw [pieG,if_pos (.inr (hx x (by simp))),ih fun y hy=>hx y (by simp [hy])]
    rw [key r fun x hx=>by have:=p1 x hx;omega]
    refine .cons h (fun x h1 h2=>valG_same h1 fun p hp=>?_) (.nil _)
    rcases hr p.1 (List.mem_map.2 ⟨p,hp,rfl⟩) with h4|h4
    ·exact .inl h4
    ·rcases List.mem_cons.1 h4 with h5|h4
     ·exact .inr (by omega)
     ·have:=p1 _ h4;exact .inr (by omega)
  ·rename_i h3
   refine .cons (by omega) (fun x h1 h2=>valG_same h1 fun p hp=>?_) (pieG_cut (by omega) p2 fun x hx=>?_)
   ·rcases hr p.1 (List.mem_map.2 ⟨p,hp,rfl⟩) with h4|h4
    ·exact .inl h4
    ·rcases List.mem_cons.1 h4 with h5|h4
     ·exact .inr (by omega)
     ·have:=p1 _ h4;exact .inr (by omega)
   ·rcases hr x hx with h4|h4
    ·exact .inl (by omega)
    ·rcases List.mem_cons.1 h4 with rfl|h4
     ·exact .inl (Int.le_refl _)
     ·exact .inr h4
theorem Cut.le {g:Int→Int} {a b:Int} {l:List ((Int×Int)×Int)} (h:Cut g a b l):a≤b:=by
 induction h with
 |nil=>exact Int.le_refl _
 |cons h _ _ ih=>omega
theorem sumG_cut {g:Int→Int} {a b:Int} {l:List ((Int×Int)×Int)} (h:Cut g a b l):∀ (sum all:Int),0≤all→all≤4000000000000000000 →
  sumG sum all l=if all+dSum (fun d=>max (g d) (-(g d))) a (b-a).toNat>4000000000000000000 then (0,5) else (sum+dSum g a (b-a).toNat,0):=by
 induction h with
 |nil a=>intro sum all h1 h2;simp [sumG,dSum];omega
 |@cons a b c l hab hg hl ih =>
  intro sum all h1 h2
  have hbc:=hl.le
  obtain ⟨n,hn⟩:∃ n:Nat,b-a=(n:Int):=⟨(b-a).toNat,by omega⟩
  obtain ⟨m,hm⟩:∃ m:Nat,c-b=(m:Int):=⟨(c-b).toNat,by omega⟩
  have e1:(c-a).toNat=n+m:=by omega
  have e2:(c-b).toNat=m:=by omega
  have eb:b=a+(n:Int):=by omega
  have s1:dSum g a n=n*g a:=dSum_const n a fun d h3 h4=>hg d h3 (by omega)
  have s2:dSum (fun d=>max (g d) (-(g d))) a n=n*max (g a) (-(g a)):=dSum_const n a fun d h3 h4=>by rw [hg d h3 (by omega)]
  have s3:0≤dSum (fun d=>max (g d) (-(g d))) b m:=dSum_nonneg m b fun d _ _=>by omega
  have hn0:0<(n:Int):=by omega
  rw [e2] at ih
  rw [e1,dSum_add,dSum_add,s1,s2,←eb,sumG,hn]
  have hq:max (g a) (-(g a))>(4000000000000000000-all) / (n:Int)↔all+n*max (g a) (-(g a))>4000000000000000000:=by
   have:=Int.le_ediv_iff_mul_le (a:=max (g a) (-(g a))) (b:=4000000000000000000-all) hn0
   rw [Int.mul_comm] at this
   omega
  have hpos:0≤(n:Int)*max (g a) (-(g a)):=Int.mul_nonneg (by omega) (by omega)
  by_cases hb:max (g a) (-(g a))>(4000000000000000000-all) / (n:Int)
  ·rw [if_pos hb,if_pos (by have:=hq.1 hb;omega)]
  ·have hb':=mt hq.2 hb
   rw [if_neg hb,ih _ _ (by omega) (by omega)]
   have e3:all+↑n*max (g a) (-g a)+dSum (fun d=>max (g d) (-g d)) b m=all+(↑n*max (g a) (-g a)+dSum (fun d=>max (g d) (-g d)) b m):=by omega
   have e4:sum+↑n*g a+dSum g b m=sum+(↑n*g a+dSum g b m):=by omega
   rw [e3,e4]
theorem sumS_eq (P:List (Int×Int)) (a b:Int):sumS P a b=if stG 0 0 P&&fullB a b then
  (if dSum (fun d=>max (valS P d) (-(valS P d))) a (b-a).toNat>4000000000000000000 then (0,5) else (dSum (valS P) a (b-a).toNat,0)) else (0,1):=by
 unfold sumS
 split
 ·rename_i h
  simp only [Bool.and_eq_true,fullB,decide_eq_true_eq] at h
  obtain ⟨-,i2⟩:=stG_iff h.1
  rw [sumG_cut (pieG_cut (by omega) (List.pairwise_map.2 i2) fun d hd=>.inr hd) 0 0 (by omega) (by omega),Int.zero_add,Int.zero_add]
 ·rfl
end Go.Proofs.YtanppabbmffokaaGreat
end
section
namespace Go.Proofs.YtanppabbmffokaaGreat
open Go.Bx
theorem stG_snoc:∀ {P:List (Int×Int)} {d0 v0 d v:Int},stG d0 v0 (P++[(d,v)])=(stG d0 v0 P&&!(decide (d≤(P.getD (P.length-1) (d0,v0)).1) || decide (d>292194) || (v == (P.getD (P.length-1) (d0,v0)).2) || !(moneyB v)))
 |[],d0,v0,d,v=>by simp [stG]
 |(a,b)::P,d0,v0,d,v=>by
  rw [List.cons_append,stG,stG,stG_snoc (P:=P),Bool.and_assoc]
  have e:((a,b)::P).getD (((a,b)::P).length-1) (d0,v0)=P.getD (P.length-1) (a,b):=by
   cases P with
   |nil=>rfl
   |cons p P=>simp [List.getD_eq_getElem?_getD]
  rw [e]
theorem valG_snoc:∀ {P:List (Int×Int)} {cur d v day:Int},(∀ p,p∈P→p.1<d)→valG cur (P++[(d,v)]) day=if d≤day then v else valG cur P day
 |[],cur,d,v,day,_=>by simp [valG]
 |(a,b)::P,cur,d,v,day,h=>by
  have h1:=h (a,b) (by simp)
  simp only at h1
  rw [List.cons_append,valG,valG,valG_snoc (fun p hp=>h p (by simp [hp]))]
  by_cases h2:d≤day
  ·rw [if_pos h2,if_pos h2,if_pos (by omega)]
  ·rw [if_neg h2,if_neg h2]
def popP (P:List (Int×Int)) (day:Int):List (Int×Int):=if 0<P.length∧(P.getD (P.length-1) (0,0)).1=day then P.take (P.length-1) else P
def pushP (P:List (Int×Int)) (day v:Int):List (Int×Int):=if v≠(P.getD (P.length-1) (0,0)).2∧day≤292194 then P++[(day,v)] else P
def addP (P:List (Int×Int)) (day v:Int):List (Int×Int):=pushP (popP P day) day v
theorem snoc_or {α:Type} (l:List α):l=[]∨∃ m x,l=m++[x]:=by
 rcases List.eq_nil_or_concat l with h|⟨m,x,h⟩
 ·exact .inl h
 ·exact .inr ⟨m,x,by simpa using h⟩
theorem pushP_ok {P:List (Int×Int)} {day v:Int} (h:stG 0 0 P=true) (hd:∀ p,p∈P→p.1<day) (h1:1≤day) (hv:moneyB v=true) :
  stG 0 0 (pushP P day v)=true∧(∀ p,p∈pushP P day v→p.1≤day)∧∀ d,d≤292194→valS (pushP P day v) d=if d<day then valS P d else v:=by
 have hl:(P.getD (P.length-1) (0,0)).1<day:=by
  rcases snoc_or P with rfl|⟨m,x,rfl⟩
  ·simp;omega
  ·simpa [List.getD_eq_getElem?_getD] using hd x (by simp)
 have hlast:∀ d,day≤d→valS P d=(P.getD (P.length-1) (0,0)).2:=fun d h2=>by
  rcases snoc_or P with rfl|⟨m,x,rfl⟩
  ·rfl
  ·have hx:=hd x (by simp)
   have hm:∀ p,p∈m→p.1<x.1:=fun p hp=>(List.pairwise_append.1 (stG_iff h).2).2.2 p hp x (by simp)
   have:=valG_snoc (P:=m) (cur:=0) (d:=x.1) (v:=x.2) (day:=d) hm
   rw [valS,this,if_pos (by omega)]
   simp [List.getD_eq_getElem?_getD]
 unfold pushP
 split
 ·rename_i hc
  refine ⟨?_,fun p hp=>?_,fun d h2=>?_⟩
  ·rw [stG_snoc,h,hv]
   have a1:decide (day≤(P.getD (P.length-1) (0,0)).1)=false:=decide_eq_false (by omega)
   have a2:decide (day>292194)=false:=decide_eq_false (by omega)
   have a3:(v == (P.getD (P.length-1) (0,0)).2)=false:=by simpa using hc.1
   rw [a1,a2,a3];rfl
  ·rcases List.mem_append.1 hp with h3|h3
   ·have:=hd p h3;omega
   ·simp at h3;subst h3;exact Int.le_refl _
  ·rw [valS,valG_snoc hd]
   by_cases h3:d<day
   ·rw [if_pos h3,if_neg (by omega)];rfl
   ·rw [if_neg h3,if_pos (by omega)]
 ·rename_i hc
  refine ⟨h,fun p hp=>by have:=hd p hp;omega,fun d h2=>?_⟩
  by_cases h3:d<day
  ·rw [if_pos h3]
  ·rw [if_neg h3,hlast d (by omega)]
   by_cases h4:v=(P.getD (P.length-1) (0,0)).2
   ·exact h4.symm
   ·exact absurd ⟨h4,by omega⟩ hc
theorem popP_ok {P:List (Int×Int)} {day:Int} (h:stG 0 0 P=true) (hd:∀ p,p∈P→p.1≤day):stG 0 0 (popP P day)=true∧(∀ p,p∈popP P day→p.1<day)∧∀ d,d<day→valS (popP P day) d=valS P d:=by
 rcases snoc_or P with rfl|⟨m,x,rfl⟩
 ·exact ⟨h,fun p hp=>by simp [popP] at hp,fun d _=>rfl⟩
 ·have hm:∀ p,p∈m→p.1<x.1:=fun p hp=>(List.pairwise_append.1 (stG_iff h).2).2.2 p hp x (by simp)
  have hx:=hd x (by simp)
  have e1:((m++[x]).getD ((m++[x]).length-1) (0,0))=x:=by simp [List.getD_eq_getElem?_getD]
  have e2:(m++[x]).take ((m++[x]).length-1)=m:=by simp
  rw [popP,e1,e2]
  split
  ·rename_i hc
   have:=stG_snoc (P:=m) (d0:=0) (v0:=0) (d:=x.1) (v:=x.2)
   rw [h] at this
   refine ⟨?_,fun p hp=>by have:=hm p hp;omega,fun d h2=>?_⟩
   ·simp only [Bool.true_eq,Bool.and_eq_true] at this
    exact this.1
   ·rw [valS,valS,valG_snoc hm,if_neg (by omega)]
  ·rename_i hc
   have hne:x.1≠day:=fun e=>hc ⟨by simp,e⟩
   refine ⟨h,fun p hp=>?_,fun d _=>rfl⟩
   rcases List.mem_append.1 hp with h3|h3
   ·have:=hm p h3;omega
   ·simp at h3;subst h3;omega
theorem addP_ok {P:List (Int×Int)} {day v:Int} (h:stG 0 0 P=true) (hd:∀ p,p∈P→p.1≤day) (h1:1≤day) (hv:moneyB v=true) :
  stG 0 0 (addP P day v)=true∧(∀ p,p∈addP P day v→p.1≤day)∧∀ d,d≤292194→valS (addP P day v) d=if d<day then valS P d else v:=by
 obtain ⟨a1,a2,a3⟩:=popP_ok h hd
 obtain ⟨b1,b2,b3⟩:=pushP_ok a1 a2 h1 hv
 refine ⟨b1,b2,fun d h2=>?_⟩
 rw [addP,b3 d h2]
 split
 ·rename_i h3;exact a3 d h3
 ·rfl
def fullSl (s:Sl) (e:Int):Bool:=(decide (s.sf≥e)&&(decide (s.sf<s.st)&&decide (s.st≤292195)))&&(decide (s.yr≥0)&&decide (s.yr≤4000000000000000000))
def curG:List (Int×Int)→Int→List Sl→Option (List (Int×Int))
 |P,_,[]=>some P
 |P,e,s::r=>if fullSl s e=true then curG (addP (addP P s.sf s.yr) s.st 0) s.st r else none
def curS (l:List Sl):Option (List (Int×Int)):=if l.length>2000 then none else curG [] 1 l
def yrAt (l:List Sl) (d:Int):Int:=match l.find? (fun s=>decide (s.sf≤d)&&decide (d<s.st)) with|some s=>s.yr|none=>0
theorem fullSl_iff {s:Sl} {e:Int}:fullSl s e=true↔e≤s.sf∧s.sf<s.st∧s.st≤292195∧0≤s.yr∧s.yr≤4000000000000000000:=by
 simp only [fullSl,Bool.and_eq_true,decide_eq_true_eq];omega
theorem yrAt_cons (s:Sl) (l:List Sl) (d:Int):yrAt (s::l) d=if s.sf≤d∧d<s.st then s.yr else yrAt l d:=by
 unfold yrAt
 rw [List.find?_cons]
 by_cases h:s.sf≤d∧d<s.st
 ·rw [if_pos h,decide_eq_true h.1,decide_eq_true h.2];rfl
 ·have e1:(decide (s.sf≤d)&&decide (d<s.st))=false:=by
   rw [Bool.and_eq_false_iff,decide_eq_false_iff_not,decide_eq_false_iff_not];omega
  rw [if_neg h,e1]
inductive Run:Int→List Sl→Prop
 |nil (e:Int):Run e []
 |cons {e:Int} {s:Sl} {l:List Sl} (h:fullSl s e=true) (hl:Run s.st l):Run e (s::l)
theorem Run.yr {e d:Int} {l:List Sl} (h:Run e l) (hd:d<e):yrAt l d=0:=by
 induction h generalizing d with
 |nil=>rfl
 |cons h _ ih =>
  have:=fullSl_iff.1 h
  rw [yrAt_cons,if_neg (by omega)]
  exact ih (by omega)
theorem curG_ok:∀ {l:List Sl} {P Q:List (Int×Int)} {e:Int},curG P e l=some Q→1≤e→stG 0 0 P=true→(∀ p,p∈P→p.1≤e)→(∀ d,e≤d→d≤292194→valS P d=0) →
  Run e l∧stG 0 0 Q=true∧∀ d,d≤292194→valS Q d=if d<e then valS P d else yrAt l d
 |[],P,Q,e,h,h1,h2,h3,h4=>by
  injection h with h;subst h
  refine ⟨.nil _,h2,fun d hd=>?_⟩
  split
  ·rfl
  ·exact h4 d (by omega) hd
 |s::l,P,Q,e,h,h1,h2,h3,h4=>by
  rw [curG] at h
  split at h
  ·rename_i hf
   have hf':=fullSl_iff.1 hf
   obtain ⟨a1,a2,a3⟩:=addP_ok (v:=s.yr) h2 (fun p hp=>by have:=h3 p hp;omega:∀ p,p∈P→p.1≤s.sf) (by omega) (by simp only [moneyB,Bool.and_eq_true,decide_eq_true_eq];omega)
   obtain ⟨b1,b2,b3⟩:=addP_ok (v:=0) a1 (fun p hp=>by have:=a2 p hp;omega:∀ p,p∈addP P s.sf s.yr→p.1≤s.st) (by omega) rfl
   obtain ⟨c1,c2,c3⟩:=curG_ok h (by omega) b1 b2 (fun d g1 g2=>by rw [b3 d g2,if_neg (by omega)])
   refine ⟨.cons hf c1,c2,fun d hd=>?_⟩
   rw [c3 d hd,b3 d hd,a3 d hd,yrAt_cons]
   by_cases g1:d<e
   ·rw [if_pos (by omega),if_pos (by omega),if_pos (by omega),if_pos g1]
   ·rw [if_neg g1]
    by_cases g2:d<s.sf
    ·rw [if_pos (by omega),if_pos (by omega),if_pos g2,if_neg (by omega),h4 d (by omega) hd]
     exact (c1.yr (by omega)).symm
    ·by_cases g3:d<s.st
     ·rw [if_pos g3,if_pos g3,if_neg g2,if_pos ⟨by omega,g3⟩]
     ·rw [if_neg g3,if_neg (by omega)]
  ·cases h
theorem curS_ok {l:List Sl} {P:List (Int×Int)} (h:curS l=some P):Run 1 l∧l.length≤2000∧stG 0 0 P=true∧∀ d,1≤d→d≤292194→valS P d=yrAt l d:=by
 unfold curS at h
 split at h
 ·cases h
 ·obtain ⟨h1,h2,h3⟩:=curG_ok h (by omega) rfl (fun p hp=>by simp at hp) (fun d _ _=>rfl)
  exact ⟨h1,by omega,h2,fun d g1 g2=>by rw [h3 d g2,if_neg (by omega)]⟩
theorem curS_run {l:List Sl} (h:Run 1 l) (hl:l.length≤2000):∃ P,curS l=some P:=by
 have:∀ (l:List Sl) (e:Int) (P:List (Int×Int)),Run e l→∃ Q,curG P e l=some Q:=by
  intro l
  induction l with
  |nil=>intro e P _;exact ⟨P,rfl⟩
  |cons s l ih =>
   intro e P h
   cases h with
   |cons h1 h2=>rw [curG,if_pos h1];exact ih _ _ h2
 rw [curS,if_neg (by omega)]
 exact this l 1 [] h
end Go.Proofs.YtanppabbmffokaaGreat
end
section
namespace Go.Proofs.YtanppabbmffokaaGreat
open Go.Bx
set_option maxRecDepth 10000
theorem TR.yieldD {c:Ctx} {fn:List Nat} {Z:Nat→List (Nat×Go.Bx.Own)} (hZ:CliZ fn Z) (hfn:c.fn=fn) {k l:Nat} {go:Bool} {args:List V} (hY:YR c l args (Z k) (Z (k+1)) go) {env:List (Nat×V)} {own:List (Nat×Go.Bx.Own)} {nm:List Nat} (hB:wkB [] ⟨env,own,nm⟩=true) (hnm:(nm.all fun n=>decide (n<1000000))=true)
  {d:Option Nat} {x:X} {xs:List X} {acc:List Lg} {anc:List Nat} {K:Kont} (hx:evV ⟨env,own++Z k,nm++keysO (Z k)⟩ x=.fn (.yield l) [] []) (hsx:evS true ⟨env,own++Z k,nm++keysO (Z k)⟩ x) (ha:evVs ⟨env,own++Z k,nm++keysO (Z k)⟩ xs=args) (hs:evSs true ⟨env,own++Z k,nm++keysO (Z k)⟩ xs)
  (hok:∀ lg,ownOk (acc++[lg]) anc=true) (h:∀ st',Wk c st' ⟨setE env d (.d (.bool go)),own++Z (k+1),nm++keysO (Z (k+1))⟩→K .nrm st'):TR c true [⟨d,none,.callv x xs⟩] ⟨env,own++Z k,nm++keysO (Z k)⟩ acc (drwK anc K):=by
 have hB':=hB
 simp only [wkB,Bool.and_eq_true,List.all_eq_true,List.contains_iff_mem] at hB'
 obtain ⟨-,h2,h3,h4⟩:=hB'
 have hk:∀ n,n∈keysO own→n∈nm:=fun n hk=>by obtain ⟨o,ho'⟩:=keys_mem hk;exact h4 n (oNames_in ho').1
 have hlt:∀ n,n∈nm→n<1000000:=fun n hn=>by simpa using List.all_eq_true.1 hnm n hn
 have hnd:(keysO (own++Z k)).Nodup:=by
  rw [keysO_app,List.nodup_append]
  exact ⟨nodupB_ok h2,hZ.nodup k,fun a ha b hb e=>by have:=hlt a (hk a ha);have:=hZ.ge k b hb;omega⟩
 have hin:∀ n o,(n,o)∈Z k→own? (own++Z k) n=some o:=fun n o hm=>mem_own? hnd (List.mem_append_right _ hm)
 refine TR.cons _ (hY d x xs _ hx hsx ha hs hin) (fun n hn h5=>?_) (TR.nil ⟨hok _,h _ ?_⟩)
 ·obtain ⟨h6,h7⟩:=List.mem_filter.1 hn
  rcases List.mem_append.1 h5 with h5|h5
  ·have:=hlt n h5;have:=hZ.ge _ n h6;omega
  ·simp only [Bool.not_eq_true',List.contains_eq_mem,decide_eq_false_iff_not] at h7
   exact h7 h5
 ·have hcall:=fun n=>own?_call (ins:=Z k) (outs:=Z (k+1)) hnd (hZ.nodup (k+1)) n
  refine Wk.ofZ0 (c:=c) (st:=St.stp ⟨env,own++Z k,nm++keysO (Z k)⟩ d { val:=.d (.bool go),upd:=callU (Z k) (Z (k+1)),rd:=keysO (Z k),new:=(keysO (Z (k+1))).filter fun n=>!(keysO (Z k)).contains n }) hZ hfn (k+1) (env:=setE env d (.d (.bool go))) (own:=own) (nm:=nm) ?_ hnm ?_ ?_ ?_
  ·simp only [wkB,List.all_nil,Bool.true_and,Bool.and_eq_true,List.all_eq_true,List.contains_iff_mem] at hB ⊢
   refine ⟨hB.1,fun n hn=>?_,hB.2.2⟩
   cases d with
   |none=>exact hB.2.1 n hn
   |some d =>
    simp only [setE,envNames,V.names,List.nil_append] at hn
    exact hB.2.1 n hn
  ·exact fun s=>VLe.refl _
  ·refine OwnLe.of fun n o hm=>⟨o,?_,OLe.refl o⟩
   have hn:=hlt n (hk n (mem_keys hm))
   show own? (applyU (own++Z k) (callU (Z k) (Z (k+1)))) n=some o
   rw [hcall,own?_Z hZ hn]
   simp only
   rw [if_neg (fun h=>by have:=hZ.ge k n h;omega)]
   exact mem_own? hnd (List.mem_append_left _ hm)
  ·intro n o hm
   show own? (applyU (own++Z k) (callU (Z k) (Z (k+1)))) n=some o
   rw [hcall,mem_own? (hZ.nodup (k+1)) hm]
def cSt (P:List (Int×Int)):List V:=[.d (slK .i64 (P.map (·.1))),.d (slK .i64 (P.map (·.2)))]
def vSt (P:List (Int×Int)):V:=.ag (cSt P)
theorem map1 {P:List (Int×Int)} {k:Nat} {p:Int×Int} (h:P[k]?=some p):(P.map (·.1)).getD k 0=p.1∧(P.map (·.2)).getD k 0=p.2:=by
 simp [List.getD_eq_getElem?_getD,h]
theorem sMoney (v:Int):Ctr Tryz.prog 121 [.d (.int .i64 v)] [] (.d (.bool (moneyB v))) [] []:=by
 refine ctr_pure Tryz.func121 ok121 rfl cc121 cr121 Tryz.ntmps121 (by simp) rfl rfl ?_;intro c hP hfn;simp only [kc121,vcd,↓vcp,seval]
 repeat' first|refine ⟨fun h=>?_,fun h=>?_⟩|refine aO ?_|refine aT ?_|fail
 exact RetK.pure (by simp only [rs121,rsb,vcd,↓vcp,seval]) (by (simp only [rs121,rsb,enb,vcd,↓vcp,seval])<;>(first|rfl))
theorem sFullS (a b:Int):Ctr Tryz.prog 78 [vS a b] [] (.d (.bool (fullB a b))) [] []:=by
 refine ctr_pure Tryz.func78 ok78 rfl cc78 cr78 Tryz.ntmps78 (by simp) rfl rfl ?_;intro c hP hfn;simp only [kc78,vS,vcd,↓vcp,seval]
 repeat' first|refine ⟨fun h=>?_,fun h=>?_⟩|refine aO ?_|refine aT ?_|fail
 exact RetK.pure (by simp only [rs78,rsb,vcd,↓vcp,seval]) (by (simp only [rs78,rsb,enb,vcd,↓vcp,seval])<;>(first|rfl))
theorem sRightS (P:List (Int×Int)) (hl:P.length≤9223372036854775806):Ctr Tryz.prog 77 [vSt P] [] (.d (.bool (stG 0 0 P))) [] []:=by
 have n0:((P.length:Int) != (P.length:Int))=false:=by rw [bne_eq_false_iff_eq]
 refine ctr_pure Tryz.func77 ok77 rfl cc77 cr77 Tryz.ntmps77 (by simp) rfl rfl ?_;intro c hP hfn;simp only [kc77,vSt,cSt,slK,List.length_map,n0,vcd,↓vcp,seval]
 repeat' first|refine ⟨fun h=>?_,fun h=>?_⟩|refine aO ?_|refine aT ?_|fail
 refine vcC.loop (X:=Nat×Int×Int) (fun x=>⟨[(1,.own 1 0),(3,.d (.int .i64 x.2.1)),(4,.d (.int .i64 x.2.2)),(16,.d (slK .i64 (P.map (·.1)))),(17,.d (.int .i64 P.length)),(18,.d (.int .i64 x.1))],[(1,.fix (cSt P))],[1]⟩)
  (fun x=>x.1≤P.length∧stG 0 0 P=stG x.2.1 x.2.2 (P.drop x.1)) (fun x=>P.length-x.1) (0,0,0) ⟨Nat.zero_le _,rfl⟩ (Wk.of _ hfn rfl (by simp only [slK,List.length_map,enb,vcd,↓vcp,seval]) (by simp only [cSt,slK,List.length_map,enb,vcd,↓vcp,seval])) ?_
 rintro ⟨k,day,val⟩ ⟨hk,he⟩
 simp only at hk he
 by_cases hlt:k<P.length
 ·obtain ⟨⟨d,v⟩,hd,-,-,hp⟩:=drop_at hlt
  obtain ⟨g1,g2⟩:=map1 hp
  simp only at g1 g2
  rw [hd,stG] at he
  have d0:decide ((k:Int)<(P.length:Int))=true:=decide_eq_true (by omega)
  have w1:IntKind.i64.wrap ((k:Int)+1)=((k+1:Nat):Int):=wS (by omega)
  have b1:(0:Int)≤(k:Int)∧(k:Int)<(P.length:Int):=by omega
  simp only [cSt,slK,List.length_map,d0,g1,g2,vcd,↓vcp,seval]
  repeat' first|((first|refine tp hP (by exact sMoney v) ?_|refine tg hP (fun _=>by exact sMoney v) ?_|refine tv hP rfl (by exact sMoney v) ?_);try simp only [d0,g1,g2,w1,vcd,↓vcp,seval])|refine ⟨fun h=>?_,fun h=>?_⟩|refine aO ?_|refine aT ?_|fail
  ·have hx:stG 0 0 P=false:=by rw [he,h];rfl
   rw [hx]
   exact RetK.pure (by simp only [rs77,rsb,vcd,↓vcp,seval]) (by (simp only [rs77,rsb,enb,vcd,↓vcp,seval])<;>(first|rfl))
  ·rw [h] at he
   refine lopK.on (k+1,d,v) ⟨hlt,he⟩ (by simp only;omega) (Wk.of _ hfn rfl (by simp only [slK,List.length_map,w1,enb,vcd,↓vcp,seval]) (by simp only [cSt,slK,List.length_map,enb,vcd,↓vcp,seval]))
 ·have d0:decide ((k:Int)<(P.length:Int))=false:=decide_eq_false (by omega)
  rw [List.drop_eq_nil_of_le (by omega),stG] at he
  rw [he]
  simp only [cSt,slK,List.length_map,d0,vcd,↓vcp,seval]
  repeat' first|refine ⟨fun h=>?_,fun h=>?_⟩|refine aO ?_|refine aT ?_|fail
  exact RetK.pure (by simp only [rs77,rsb,vcd,↓vcp,seval]) (by (simp only [rs77,rsb,enb,vcd,↓vcp,seval])<;>(first|rfl))
end Go.Proofs.YtanppabbmffokaaGreat
end
section
namespace Go.Proofs.YtanppabbmffokaaGreat
open Go.Bx
set_option maxRecDepth 10000
theorem sIsNaN (a:Int):Ctr Tryz.prog 190 [.d (.int .i64 a)] [] (.d (.bool false)) [] []:=by
 refine ctr_pure Tryz.func190 ok190 rfl cc190 cr190 Tryz.ntmps190 (by simp) rfl rfl ?_;intro c hP hfn;simp only [kc190,vcd,↓vcp,seval]
 exact RetK.pure (by simp only [rs190,rsb,vcd,↓vcp,seval]) (by (simp only [rs190,rsb,enb,vcd,↓vcp,seval])<;>(first|simp))
def CutAt (A:List Int) (x:Int) (n:Nat):Prop:=n≤A.length∧(∀ j,j<n→A.getD j 0<x)∧(∀ j,n≤j→j<A.length→x≤A.getD j 0)
theorem cutAt_ex:∀ {A:List Int} (x:Int),A.Pairwise (·<·)→∃ n,CutAt A x n
 |[],x,_=>⟨0,Nat.le_refl _,fun j hj=>absurd hj (Nat.not_lt_zero j),fun j _ hj=>by simp at hj⟩
 |a::A,x,h=>by
  obtain ⟨h1,h2⟩:=List.pairwise_cons.1 h
  by_cases hx:a<x
  ·obtain ⟨n,g1,g2,g3⟩:=cutAt_ex x h2
   refine ⟨n+1,by simpa using g1,fun j hj=>?_,fun j hj hl=>?_⟩
   ·cases j with
    |zero=>simpa using hx
    |succ j=>simpa using g2 j (by omega)
   ·cases j with
    |zero=>omega
    |succ j=>simpa using g3 j (by omega) (by simpa using hl)
  ·refine ⟨0,Nat.zero_le _,fun j hj=>absurd hj (Nat.not_lt_zero j),fun j _ hl=>?_⟩
   cases j with
   |zero=>simp;omega
   |succ j =>
    have hl':j<A.length:=by simpa using hl
    have:=h1 A[j] (List.getElem_mem hl')
    simp [List.getD_eq_getElem?_getD,hl'];omega
theorem sBin (A:List Int) (x:Int) (n:Nat) (hn:CutAt A x n) (hl:A.length≤2305843009213693952):Ctr Tryz.prog 170 [.d (slK .i64 A),.d (.int .i64 x)] [] (.tup [.d (.int .i64 (n:Int)),.d (.bool (decide (n<A.length)&&(A.getD n 0 == x)))]) [] []:=by
 obtain ⟨hnl,hlo,hhi⟩:=hn
 refine ctr_pure Tryz.func170 ok170 rfl cc170 cr170 Tryz.ntmps170 (by simp) rfl rfl ?_;intro c hP hfn;simp only [kc170,slK,vcd,↓vcp,seval]
 refine vcC.loop (X:=Nat×Nat) (fun y=>⟨[(0,.d (slK .i64 A)),(1,.d (.int .i64 x)),(6,.d (.int .i64 A.length)),(7,.d (.int .i64 (y.1:Nat))),(8,.d (.int .i64 (y.2:Nat)))],[],[]⟩)
  (fun y=>y.1≤n∧n≤y.2∧y.2≤A.length) (fun y=>y.2-y.1) (0,A.length) ⟨Nat.zero_le _,hnl,Nat.le_refl _⟩ (Wk.of _ hfn rfl (by simp only [slK,enb,vcd,↓vcp,seval]) (by simp only [enb,vcd,↓vcp,seval])) ?_
 rintro ⟨i,j⟩ ⟨h1,h2,h3⟩
 simp only at h1 h2 h3
 by_cases hij:i<j
 ·have d0:decide ((i:Int)<(j:Int))=true:=decide_eq_true (by omega)
  have wq:=midW (i:=i) (j:=j) (by omega)
  obtain ⟨q,hh⟩:∃ q,q=(i+j) / 2:=⟨_,rfl⟩
  rw [←hh] at wq
  have hq:i≤q∧q<j:=by omega
  have w1:IntKind.i64.wrap ((q:Int)+1)=((q+1:Nat):Int):=wS (by omega)
  have b1:(0:Int)≤(q:Int)∧(q:Int)<(A.length:Int):=by omega
  have cc:=sLess (A.getD q 0) x
  simp only [slK,d0,wq,vcd,↓vcp,seval]
  repeat' first|((first|refine tp hP (by exact cc) ?_|refine tg hP (fun _=>by exact cc) ?_|refine tv hP rfl (by exact cc) ?_);try simp only [d0,wq,w1,vcd,↓vcp,seval])|refine ⟨fun h=>?_,fun h=>?_⟩|refine aO ?_|refine aT ?_|fail
  ·have hx:A.getD q 0<x:=of_decide_eq_true h
   have hqn:q<n:=by
    by_cases g:q<n
    ·exact g
    ·have:=hhi q (by omega) (by omega);omega
   exact lopK.on (q+1,j) ⟨hqn,h2,h3⟩ (by simp only;omega) (Wk.of _ hfn rfl (by simp only [slK,w1,enb,vcd,↓vcp,seval]) (by simp only [enb,vcd,↓vcp,seval]))
  ·have hx:¬ A.getD q 0<x:=of_decide_eq_false h
   have hqn:n≤q:=by
    by_cases g:q<n
    ·exact absurd (hlo q g) hx
    ·omega
   exact lopK.on (i,q) ⟨h1,hqn,by simp only;omega⟩ (by simp only;omega) (Wk.of _ hfn rfl (by simp only [slK,enb,vcd,↓vcp,seval]) (by simp only [enb,vcd,↓vcp,seval]))
 ·have d0:decide ((i:Int)<(j:Int))=false:=decide_eq_false (by omega)
  obtain rfl:i=n:=by omega
  by_cases hb:i<A.length
  ·have d1:decide ((i:Int)<(A.length:Int))=true:=decide_eq_true (by omega)
   have d2:decide (i<A.length)=true:=decide_eq_true hb
   have b1:(0:Int)≤(i:Int)∧(i:Int)<(A.length:Int):=by omega
   rw [d2,Bool.true_and]
   cases hq:(A.getD i 0 == x) with
   |true =>
    simp only [slK,d0,d1,hq,vcd,↓vcp,seval]
    repeat' first|((first|refine tp hP (by first|exact sIsNaN (A.getD i 0)|exact sIsNaN x) ?_|refine tg hP (fun _=>by first|exact sIsNaN (A.getD i 0)|exact sIsNaN x) ?_|refine tv hP rfl (by first|exact sIsNaN (A.getD i 0)|exact sIsNaN x) ?_);try simp only [d0,d1,hq,vcd,↓vcp,seval])|refine ⟨fun h=>?_,fun h=>?_⟩|refine aO ?_|refine aT ?_|fail
    exact RetK.pure (by simp only [rs170,rsb,vcd,↓vcp,seval]) (by (simp only [rs170,rsb,enb,vcd,↓vcp,seval])<;>(first|exact VLe.refl _))
   |false =>
    simp only [slK,d0,d1,hq,vcd,↓vcp,seval]
    repeat' first|((first|refine tp hP (by first|exact sIsNaN (A.getD i 0)|exact sIsNaN x) ?_|refine tg hP (fun _=>by first|exact sIsNaN (A.getD i 0)|exact sIsNaN x) ?_|refine tv hP rfl (by first|exact sIsNaN (A.getD i 0)|exact sIsNaN x) ?_);try simp only [d0,d1,hq,vcd,↓vcp,seval])|refine ⟨fun h=>?_,fun h=>?_⟩|refine aO ?_|refine aT ?_|fail
    exact RetK.pure (by simp only [rs170,rsb,vcd,↓vcp,seval]) (by (simp only [rs170,rsb,enb,vcd,↓vcp,seval])<;>(first|exact VLe.refl _))
  ·have d1:decide ((i:Int)<(A.length:Int))=false:=decide_eq_false (by omega)
   have d2:decide (i<A.length)=false:=decide_eq_false hb
   rw [d2,Bool.false_and]
   simp only [slK,d0,d1,vcd,↓vcp,seval]
   repeat' first|((first|refine tp hP (by first|exact sIsNaN (A.getD i 0)|exact sIsNaN x) ?_|refine tg hP (fun _=>by first|exact sIsNaN (A.getD i 0)|exact sIsNaN x) ?_|refine tv hP rfl (by first|exact sIsNaN (A.getD i 0)|exact sIsNaN x) ?_);try simp only [d0,d1,vcd,↓vcp,seval])|refine ⟨fun h=>?_,fun h=>?_⟩|refine aO ?_|refine aT ?_|fail
   exact RetK.pure (by simp only [rs170,rsb,vcd,↓vcp,seval]) (by (simp only [rs170,rsb,enb,vcd,↓vcp,seval])<;>(first|exact VLe.refl _))
theorem sValue (P:List (Int×Int)) (day:Int) (hs:P.Pairwise (fun a b=>a.1<b.1)) (hl:P.length≤2305843009213693952):Ctr Tryz.prog 123 [vSt P,.d (.int .i64 day)] [] (.d (.int .i64 (valS P day))) [] []:=by
 obtain ⟨n,hn⟩:=cutAt_ex (A:=P.map (·.1)) day (List.pairwise_map.2 hs)
 have cb:=sBin (P.map (·.1)) day n hn (by rw [List.length_map];exact hl)
 obtain ⟨h1,h2,h3⟩:=hn
 rw [List.length_map] at h1
 have hm:∀ j,j<P.length→(P.map (·.1)).getD j 0=(P.getD j (0,0)).1∧(P.map (·.2)).getD j 0=(P.getD j (0,0)).2:=fun j hj=>by
  obtain ⟨p,-,hg,-,hp⟩:=drop_at hj
  rw [hg];exact map1 hp
 have hlt:∀ i j,i<j→j<P.length→(P.getD i (0,0)).1<(P.getD j (0,0)).1:=fun i j hij hj=>by
  have:=List.pairwise_iff_getElem.1 hs i j (by omega) hj hij
  simpa [List.getD_eq_getElem?_getD,hj,(by omega:i<P.length)] using this
 rw [List.length_map] at cb
 simp only [slK,List.length_map] at cb
 by_cases hb:n<P.length∧(P.getD n (0,0)).1=day
 ·obtain ⟨hb1,hb2⟩:=hb
  have hv:valS P day=(P.getD n (0,0)).2:=by
   have:=valG_at (P:=P) (cur:=0) (day:=day) (n+1) hb1 (fun j hj=>by
    by_cases g:j=n
    ·rw [g,hb2];exact Int.le_refl _
    ·have:=h2 j (by omega);rw [(hm j (by omega)).1] at this;omega) (fun j hj hl=>by have:=hlt n j (by omega) hl;omega)
   rw [valS,this,if_neg (by omega)];rfl
  have hd:(decide (n<P.length)&&((P.map (·.1)).getD n 0 == day))=true:=by rw [(hm n hb1).1,decide_eq_true hb1,hb2];simp
  rw [hd] at cb
  have d0:decide ((n:Int)<0)=false:=decide_eq_false (by omega)
  have b1:(0:Int)≤(n:Int)∧(n:Int)<(P.length:Int):=by omega
  rw [hv]
  refine ctr_pure Tryz.func123 ok123 rfl cc123 cr123 Tryz.ntmps123 (by simp) rfl rfl ?_;intro c hP hfn;simp only [kc123,vSt,cSt,slK,List.length_map,vcd,↓vcp,seval]
  repeat' first|((first|refine tp hP (by exact cb) ?_|refine tg hP (fun _=>by exact cb) ?_|refine tv hP rfl (by exact cb) ?_);try simp only [d0,vcd,↓vcp,seval])|refine ⟨fun h=>?_,fun h=>?_⟩|refine aO ?_|refine aT ?_|fail
  refine RetK.pure (by simp only [rs123,rsb,vcd,↓vcp,seval]) ?_
  simp only [rs123,(hm n hb1).2,rsb,vcd,↓vcp,seval]
  exact VLe.refl _
 ·have hd:(decide (n<P.length)&&((P.map (·.1)).getD n 0 == day))=false:=by
   by_cases g:n<P.length
   ·rw [(hm n g).1,decide_eq_true g,Bool.true_and,beq_eq_false_iff_ne];exact fun e=>hb ⟨g,e⟩
   ·rw [decide_eq_false g];rfl
  rw [hd] at cb
  have hv:valS P day=if n=0 then 0 else (P.getD (n-1) (0,0)).2:=valG_at (P:=P) (cur:=0) (day:=day) n h1 (fun j hj=>by have:=h2 j hj;rw [(hm j (by omega)).1] at this;omega) (fun j hj hl=>by
    have:=h3 j hj (by rw [List.length_map];exact hl)
    rw [(hm j hl).1] at this
    by_cases g:j=n
    ·subst g
     have:¬ (P.getD j (0,0)).1=day:=fun e=>hb ⟨hl,e⟩
     omega
    ·have:=hlt n j (by omega) hl
     have g3:=h3 n (Nat.le_refl _) (by rw [List.length_map];omega)
     rw [(hm n (by omega)).1] at g3
     omega)
  by_cases h0:n=0
  ·subst h0
   have w0:IntKind.i64.wrap (-1)=-1:=wI (by omega)
   have d0:decide ((-1:Int)<0)=true:=rfl
   rw [hv,if_pos rfl]
   refine ctr_pure Tryz.func123 ok123 rfl cc123 cr123 Tryz.ntmps123 (by simp) rfl rfl ?_;intro c hP hfn;simp only [kc123,vSt,cSt,slK,List.length_map,vcd,↓vcp,seval]
   repeat' first|((first|refine tp hP (by exact cb) ?_|refine tg hP (fun _=>by exact cb) ?_|refine tv hP rfl (by exact cb) ?_);try simp only [w0,d0,vcd,↓vcp,seval])|refine ⟨fun h=>?_,fun h=>?_⟩|refine aO ?_|refine aT ?_|fail
   exact RetK.pure (by simp only [rs123,rsb,vcd,↓vcp,seval]) (by (simp only [rs123,rsb,enb,vcd,↓vcp,seval])<;>(first|rfl))
  ·have w1:IntKind.i64.wrap ((n:Int)-1)=((n-1:Nat):Int):=(wI (by omega)).trans (by omega)
   have d0:decide (((n-1:Nat):Int)<0)=false:=decide_eq_false (by omega)
   have b1:(0:Int)≤((n-1:Nat):Int)∧((n-1:Nat):Int)<(P.length:Int):=by omega
   rw [hv,if_neg h0]
   refine ctr_pure Tryz.func123 ok123 rfl cc123 cr123 Tryz.ntmps123 (by simp) rfl rfl ?_;intro c hP hfn;simp only [kc123,vSt,cSt,slK,List.length_map,vcd,↓vcp,seval]
   repeat' first|((first|refine tp hP (by exact cb) ?_|refine tg hP (fun _=>by exact cb) ?_|refine tv hP rfl (by exact cb) ?_);try simp only [w1,d0,vcd,↓vcp,seval])|refine ⟨fun h=>?_,fun h=>?_⟩|refine aO ?_|refine aT ?_|fail
   refine RetK.pure (by simp only [rs123,rsb,vcd,↓vcp,seval]) ?_
   simp only [rs123,(hm (n-1) (by omega)).2,rsb,vcd,↓vcp,seval]
   exact VLe.refl _
def pcL (P:List (Int×Int)) (a b:Int):List ((Int×Int)×Int):=pieG (valS P) b a (P.map (·.1))
def dSt (P:List (Int×Int)):List D:=[slK .i64 (P.map (·.1)),slK .i64 (P.map (·.2))]
def pcF (P:List (Int×Int)) (a b:Int):V:=.fn (.func 122) [] [.mem [.int .i64 a,.int .i64 b],.mem (dSt P)]
theorem sPieces (P:List (Int×Int)) (a b:Int):Ctr Tryz.prog 79 [vSt P,vS a b] [] (pcF P a b) [] []:=by
 refine ctr_pure Tryz.func79 ok79 rfl cc79 cr79 Tryz.ntmps79 (by simp) rfl rfl ?_;intro c hP hfn;simp only [kc79,vSt,cSt,slK,List.length_map,vS,vcd,↓vcp,seval]
 repeat' first|refine ⟨fun h=>?_,fun h=>?_⟩|refine aO ?_|refine aT ?_|fail
 exact RetK.mk _ ((Wk.pubF 2 rfl rfl).trans (Wk.pubF 3 rfl rfl)) (by simp only [rs79,rsb,vcd,↓vcp,seval]) (by simp only [rs79,pcF,dSt,slK,List.length_map,rsb,enb,vcd,↓vcp,seval]) trivial
def pcArgs (P:List (Int×Int)) (a b:Int) (k:Nat):List V:=[vS ((pcL P a b).getD k default).1.1 ((pcL P a b).getD k default).1.2,.d (.int .i64 ((pcL P a b).getD k default).2)]
theorem pieG_ne (f:Int→Int) (to:Int):∀ (r:List Int) (fr:Int),0<(pieG f to fr r).length
 |[],fr=>by simp [pieG]
 |d::r,fr=>by
  rw [pieG]
  split
  ·exact pieG_ne f to r fr
  ·simp
theorem it_pieces (P:List (Int×Int)) (a b:Int) (hs:P.Pairwise (fun a b=>a.1<b.1)) (hl:P.length≤1000000):IterC Tryz.prog 122 [.mem [.int .i64 a,.int .i64 b],.mem (dSt P)] (pcArgs P a b) (pcL P a b).length:=by
 refine iter_of_vc Tryz.func122 ok122 rfl cc122 cr122 (by simp only [Tryz.ntmps122,List.length_cons,List.length_nil];decide) rfl (fun _=>rfl) ?_
 intro c l' T stop Z hP _ hZ hT hT' hY
 have hbk:∀ k n o,(n,o)∈Z k→own? ([]++Z k) n=some o:=fun k n o hm=>mem_own? (hZ.nodup k) hm
 simp only [kc122,dSt,slK,List.length_map,vcd,↓vcp,seval]
 refine vcC.loop (X:=Nat×Int×Nat) (fun x=>⟨[(0,.fn (.yield l') [] []),(1,.mem [.int .i64 a,.int .i64 b]),(2,.mem (dSt P)),(4,.d (.int .i64 x.2.1)),(10,.d (slK .i64 (P.map (·.1)))),(11,.d (.int .i64 P.length)),(12,.d (.int .i64 (x.1:Nat)))],[]++Z x.2.2,[]++keysO (Z x.2.2)⟩)
  (fun x=>x.1≤P.length∧(pcL P a b).drop x.2.2=pieG (valS P) b x.2.1 ((P.map (·.1)).drop x.1)∧x.2.2<T) (fun x=>P.length-x.1) (0,a,0)
  ⟨Nat.zero_le _,rfl,by
   have h1:=pieG_ne (valS P) b (P.map (·.1)) a
   cases hst:stop with
   |true=>exact (hT' hst).1
   |false=>rw [hT hst];exact h1⟩ (Wk.ofZ hZ rfl 0 (own:=[]) (nm:=[]) rfl rfl (by simp only [dSt,slK,List.length_map,enb,vcd,↓vcp,seval]) (by simp only [enb,vcd,↓vcp,seval]) (hbk 0)) ?_
 rintro ⟨k,fr,m⟩ ⟨hk,hd,hm⟩
 simp only at hk hd hm
 have hTn:T≤(pcL P a b).length:=by
  cases hst:stop with
  |true=>exact (hT' hst).2
  |false=>rw [hT hst];exact Nat.le_refl _
 obtain ⟨x,hdx,hgx,-,-⟩:=drop_at (l:=pcL P a b) (k:=m) (by omega)
 have hgx:=hgx default
 rw [hdx] at hd
 have hval:=sValue P fr hs (by omega)
 simp only [vSt,cSt,slK,List.length_map] at hval
 by_cases hlt:k<P.length
 ·obtain ⟨⟨d,v⟩,hdp,-,-,hp⟩:=drop_at hlt
  obtain ⟨g1,g2⟩:=map1 hp
  simp only at g1
  have hdm:(P.map (·.1)).drop k=d::(P.map (·.1)).drop (k+1):=by rw [←List.map_drop,hdp,←List.map_drop];rfl
  rw [hdm,pieG] at hd
  have d0:decide ((k:Int)<(P.length:Int))=true:=decide_eq_true (by omega)
  have w1:IntKind.i64.wrap ((k:Int)+1)=((k+1:Nat):Int):=wS (by omega)
  have b1:(0:Int)≤(k:Int)∧(k:Int)<(P.length:Int):=by omega
  by_cases hskip:d≤fr∨d≥b
  ·rw [if_pos hskip] at hd
   have hc:(decide (d≤fr) || decide (d≥b))=true:=by rw [Bool.or_eq_true,decide_eq_true_eq,decide_eq_true_eq];exact hskip
   simp only [dSt,slK,List.length_map,d0,g1,hc,vcd,↓vcp,seval]
   repeat' first|refine ⟨fun h=>?_,fun h=>?_⟩|refine aO ?_|refine aT ?_|fail
   exact lopK.on (k+1,fr,m) ⟨hlt,by rw [hdx];exact hd,hm⟩ (by simp only;omega) (Wk.ofZ hZ rfl m (own:=[]) (nm:=[]) rfl rfl (by simp only [dSt,slK,List.length_map,w1,enb,vcd,↓vcp,seval]) (by simp only [enb,vcd,↓vcp,seval]) (hbk m))
  ·rw [if_neg hskip] at hd
   have hc:(decide (d≤fr) || decide (d≥b))=false:=by rw [Bool.or_eq_false_iff,decide_eq_false_iff_not,decide_eq_false_iff_not];omega
   injection hd with hd1 hd2
   simp only [dSt,slK,List.length_map,d0,g1,hc,vcd,↓vcp,seval]
   repeat' first|((first|refine tp hP (by exact hval) ?_|refine tg hP (fun _=>by exact hval) ?_|refine tv hP rfl (by exact hval) ?_);try simp only [d0,g1,w1,hc,vcd,↓vcp,seval])|refine ⟨fun h=>?_,fun h=>?_⟩|refine aO ?_|refine aT ?_|fail
   refine TR.yield hZ rfl (hY m hm) (own:=[]) (nm:=[]) rfl rfl rfl trivial (by simp only [pcArgs,hgx,hd1,vS,vcd,↓vcp,seval]) (by simp only [vcd,↓vcp,seval]) ?_
   simp only [vcd,↓vcp,seval]
   refine ⟨fun hg=>?_,fun hg=>?_⟩
   ·have hT1:T=m+1:=by
     simp [goAt] at hg
     omega
    subst hT1
    exact IterK.mk _ (Wk.refl _ _) (OwnLe.of fun n o hm=>⟨o,mem_own? (hZ.nodup (m+1)) hm,OLe.refl o⟩)
   ·have hmT:m+1<T:=by
     simp [goAt] at hg
     by_cases h9:m+1<T
     ·exact h9
     ·have h8:=hT (hg (by omega))
      have h7:=pieG_ne (valS P) b ((P.map (·.1)).drop (k+1)) d
      rw [←hd2,List.length_drop] at h7
      omega
    simp only [w1,vcd,↓vcp,seval]
    exact lopK.on (k+1,d,m+1) ⟨hlt,hd2,hmT⟩ (by simp only;omega) (Wk.ofZ hZ rfl (m+1) (own:=[]) (nm:=[]) rfl rfl (by simp only [dSt,slK,List.length_map,w1,enb,vcd,↓vcp,seval]) (by simp only [enb,vcd,↓vcp,seval]) (hbk (m+1)))
 ·have d0:decide ((k:Int)<(P.length:Int))=false:=decide_eq_false (by omega)
  have hdm:(P.map (·.1)).drop k=[]:=List.drop_eq_nil_of_le (by rw [List.length_map];omega)
  rw [hdm,pieG] at hd
  injection hd with hd1 hd2
  have hTm:T=m+1:=by
   have:=congrArg List.length hd2
   simp at this
   omega
  simp only [dSt,slK,List.length_map,d0,vcd,↓vcp,seval]
  repeat' first|((first|refine tp hP (by exact hval) ?_|refine tg hP (fun _=>by exact hval) ?_|refine tv hP rfl (by exact hval) ?_);try simp only [d0,vcd,↓vcp,seval])|refine ⟨fun h=>?_,fun h=>?_⟩|refine aO ?_|refine aT ?_|fail
  refine TR.yieldD hZ rfl (hY m hm) (own:=[]) (nm:=[]) rfl rfl rfl trivial (by simp only [pcArgs,hgx,hd1,vS,vcd,↓vcp,seval]) (by simp only [vcd,↓vcp,seval]) ?_ ?_
  ·intro lg
   simp [ownOk,meetL,hitL,List.range,List.range.loop]
  ·intro st' hw
   rw [hTm]
   exact IterK.mk' _ hw (OwnLe.of fun n o hm=>⟨o,mem_own? (hZ.nodup (m+1)) hm,OLe.refl o⟩)
end Go.Proofs.YtanppabbmffokaaGreat
end
section
namespace Go.Proofs.YtanppabbmffokaaGreat
open Go.Bx
set_option maxRecDepth 10000
def runG (L:List ((Int×Int)×Int)) (k:Nat):Int×Int:=(L.take k).foldl (fun s p=>(s.1+(p.1.2-p.1.1)*p.2,s.2+(p.1.2-p.1.1)*max p.2 (-p.2))) (0,0)
def badP (all:Int) (p:(Int×Int)×Int):Prop:=max p.2 (-p.2)>(4000000000000000000-all) / (p.1.2-p.1.1)
instance (all:Int) (p:(Int×Int)×Int):Decidable (badP all p):=inferInstanceAs (Decidable (_>_))
theorem runG_succ {L:List ((Int×Int)×Int)} {k:Nat} {p:(Int×Int)×Int} (h:L[k]?=some p):runG L (k+1)=((runG L k).1+(p.1.2-p.1.1)*p.2,(runG L k).2+(p.1.2-p.1.1)*max p.2 (-p.2)):=by
 rw [runG,List.take_add_one,h,List.foldl_append];rfl
theorem sumG_drop {L:List ((Int×Int)×Int)} {k:Nat} {p:(Int×Int)×Int} (h:L[k]?=some p):sumG (runG L k).1 (runG L k).2 (L.drop k)=if badP (runG L k).2 p then (0,5) else sumG (runG L (k+1)).1 (runG L (k+1)).2 (L.drop (k+1)):=by
 obtain ⟨hk,rfl⟩:=List.getElem?_eq_some_iff.1 h
 rw [List.drop_eq_getElem_cons hk,runG_succ h,sumG]
 rfl
structure PcOk (p:(Int×Int)×Int):Prop where
 fr:1≤p.1.1
 lt:p.1.1<p.1.2
 to:p.1.2≤292195
 v1:-4000000000000000000≤p.2
 v2:p.2≤4000000000000000000
theorem cut_ok {g:Int→Int} {a b:Int} {l:List ((Int×Int)×Int)} (h:Cut g a b l) (ha:1≤a) (hb:b≤292195) (hg:∀ d,-4000000000000000000≤g d∧g d≤4000000000000000000):∀ p,p∈l→PcOk p:=by
 induction h with
 |nil=>intro p hp;simp at hp
 |@cons a b c l hab _ hl ih =>
  intro p hp
  have:=hl.le
  rcases List.mem_cons.1 hp with rfl|hp
  ·exact ⟨ha,hab,by simp only;omega,(hg a).1,(hg a).2⟩
  ·exact ih (by omega) hb p hp
theorem badP_iff {all:Int} {p:(Int×Int)×Int} (hp:PcOk p):badP all p↔all+(p.1.2-p.1.1)*max p.2 (-p.2)>4000000000000000000:=by
 have h0:0<p.1.2-p.1.1:=by have:=hp.lt;omega
 have:=Int.le_ediv_iff_mul_le (a:=max p.2 (-p.2)) (b:=4000000000000000000-all) h0
 rw [Int.mul_comm] at this
 unfold badP
 omega
theorem run_inv {L:List ((Int×Int)×Int)} (hp:∀ p,p∈L→PcOk p):∀ {k:Nat},k≤L.length→(∀ j p,j<k→L[j]?=some p→¬ badP (runG L j).2 p)→0≤(runG L k).2∧(runG L k).2≤4000000000000000000∧(runG L k).1≤(runG L k).2∧-(runG L k).2≤(runG L k).1
 |0,_,_=>⟨Int.le_refl _,by simp [runG],Int.le_refl _,Int.le_refl _⟩
 |k+1,hk,hb=>by
  obtain ⟨h1,h2,h3,h4⟩:=run_inv hp (k:=k) (by omega) (fun j p hj hjp=>hb j p (by omega) hjp)
  have he:L[k]?=some L[k]:=List.getElem?_eq_getElem (by omega)
  have hpo:=hp L[k] (List.getElem_mem _)
  have hnb:=mt (badP_iff (all:=(runG L k).2) hpo).2 (hb k _ (Nat.lt_succ_self k) he)
  rw [runG_succ he]
  generalize L[k]=p at *
  have hn:0≤p.1.2-p.1.1:=by have:=hpo.lt;omega
  have m1:=Int.mul_le_mul_of_nonneg_left (show p.2≤max p.2 (-p.2) by omega) hn
  have m2:=Int.mul_le_mul_of_nonneg_left (show -p.2≤max p.2 (-p.2) by omega) hn
  rw [Int.mul_neg] at m2
  have m3:0≤(p.1.2-p.1.1)*max p.2 (-p.2):=Int.mul_nonneg hn (by omega)
  simp only
  omega
theorem bad_or (L:List ((Int×Int)×Int)):∀ (n:Nat),n≤L.length→(∃ K p,K<n∧L[K]?=some p∧badP (runG L K).2 p∧∀ j q,j<K→L[j]?=some q→¬ badP (runG L j).2 q)∨(∀ j q,j<n→L[j]?=some q→¬ badP (runG L j).2 q)
 |0,_=>.inr fun j q hj=>absurd hj (Nat.not_lt_zero j)
 |n+1,hn=>by
  rcases bad_or L n (by omega) with ⟨K,p,h1,h2,h3,h4⟩|h
  ·exact .inl ⟨K,p,by omega,h2,h3,h4⟩
  ·have he:L[n]?=some L[n]:=List.getElem?_eq_getElem (by omega)
   by_cases hb:badP (runG L n).2 L[n]
   ·exact .inl ⟨n,_,by omega,he,hb,h⟩
   ·refine .inr fun j q hj hq=>?_
    by_cases e:j=n
    ·subst e;rw [he] at hq;injection hq with hq;subst hq;exact hb
    ·exact h j q (by omega) hq
theorem sumG_take {L:List ((Int×Int)×Int)}:∀ {k:Nat},k≤L.length→(∀ j q,j<k→L[j]?=some q→¬ badP (runG L j).2 q)→sumG 0 0 L=sumG (runG L k).1 (runG L k).2 (L.drop k)
 |0,_,_=>rfl
 |k+1,hk,hb=>by
  have he:L[k]?=some L[k]:=List.getElem?_eq_getElem (by omega)
  rw [sumG_take (k:=k) (by omega) (fun j q hj hq=>hb j q (by omega) hq),sumG_drop he,if_neg (hb k _ (Nat.lt_succ_self k) he)]
def smOw (e s a:Int):List (Nat×Go.Bx.Own):=[(4,.fix [.d (.int .i64 0)]),(5,.fix [.d (.int .i64 e)]),(6,.fix [.d (.int .i64 s)]),(7,.fix [.d (.int .i64 a)])]
def smO1 (p:(Int×Int)×Int) (s a:Int):List (Nat×Go.Bx.Own):=[(4,.fix [.d (.int .i64 0)]),(5,.fix [.d (.int .i64 0)]),(6,.fix [.d (.int .i64 s)]),(7,.fix [.d (.int .i64 a)]),(8,.fix [.d (.int .i64 p.1.1),.d (.int .i64 p.1.2)])]
def smEn (P:List (Int×Int)) (a b:Int):List (Nat×V):=[(4,.own 4 0),(5,.own 5 0),(6,.own 6 0),(7,.own 7 0),(22,pcF P a b)]
def smE1 (p:(Int×Int)×Int):List (Nat×V):=[(4,.own 4 0),(5,.own 5 0),(6,.own 6 0),(7,.own 7 0),(8,.own 8 0),(9,.d (.int .i64 p.2))]
theorem sm_cli (e s a:Nat→Int):CliO [4,5,6,7] (fun k=>smOw (e k) (s k) (a k)):=by
 refine ⟨fun k=>by simp [smOw,keysO],fun k n hn=>?_,fun k n hn=>by simpa [smOw,keysO] using hn⟩
 simp only [smOw,ownNames,namesL,V.names,List.append_nil,List.nil_append] at hn
 simpa [smOw,keysO] using hn
theorem sm_cli1 (p:Nat→(Int×Int)×Int) (s a:Nat→Int):CliO [4,5,6,7] (fun k=>smO1 (p k) (s k) (a k)):=by
 refine ⟨fun k=>by simp [smO1,keysO],fun k n hn=>?_,fun k n hn=>?_⟩
 ·simp only [smO1,ownNames,namesL,V.names,List.append_nil,List.nil_append] at hn
  simpa [smO1,keysO] using hn
 ·simp only [List.mem_cons,List.not_mem_nil,or_false] at hn
  rcases hn with h|h|h|h<;>simp [smO1,keysO,h]
theorem sm_env (P:List (Int×Int)) (a b:Int):∀ s n,n∈(Go.Bx.get (smEn P a b) s).names→n∈[4,5,6,7]:=env_names fun s y hm n hn=>by
 simp only [smEn,pcF,List.mem_cons,Prod.mk.injEq,List.not_mem_nil,or_false] at hm
 rcases hm with ⟨rfl,rfl⟩|⟨rfl,rfl⟩|⟨rfl,rfl⟩|⟨rfl,rfl⟩|⟨rfl,rfl⟩<;>simp [V.names,namesL] at hn ⊢<;>simp [hn]
set_option maxHeartbeats 1000000 in
theorem sSumS (P:List (Int×Int)) (a b:Int) (hl:P.length≤1000000):Ctr Tryz.prog 30 [vSt P,vS a b] [] (.tup [.d (.int .i64 (sumS P a b).1),.d (.int .i64 (sumS P a b).2)]) [] []:=by
 have cr:=sRightS P (by omega)
 have cf:=sFullS a b
 have cp:=sPieces P a b
 simp only [vSt,cSt,slK,List.length_map] at cr
 simp only [vS] at cf
 simp only [vSt,cSt,slK,List.length_map,vS] at cp
 cases hR:stG 0 0 P with
 |false =>
  have e:sumS P a b=(0,1):=by rw [sumS,hR];rfl
  rw [hR] at cr
  rw [e]
  refine ctr_pureL Tryz.func30 ok30 rfl cc30 cr30 Tryz.ntmps30 (by simp) rfl rfl ?_;intro c hP hfn hrd;simp only [kc30,vSt,cSt,slK,List.length_map,vS,vcd,↓vcp,seval]
  repeat' first|((first|refine tp hP (by first|exact cr|exact cf) ?_|refine tg hP (fun _=>by first|exact cr|exact cf) ?_|refine tv hP rfl (by first|exact cr|exact cf) ?_);try simp only [vcd,↓vcp,seval])|refine ⟨fun h=>?_,fun h=>?_⟩|refine aO ?_|refine aT ?_|fail
  all_goals exact RetK.pure (by simp only [rs30,rsb,vcd,↓vcp,seval]) (by (simp only [rs30,rsb,enb,vcd,↓vcp,seval])<;>(first|exact VLe.refl _))
 |true =>
 rw [hR] at cr
 cases hF:fullB a b with
 |false =>
  have e:sumS P a b=(0,1):=by rw [sumS,hR,hF];rfl
  rw [hF] at cf
  rw [e]
  refine ctr_pureL Tryz.func30 ok30 rfl cc30 cr30 Tryz.ntmps30 (by simp) rfl rfl ?_;intro c hP hfn hrd;simp only [kc30,vSt,cSt,slK,List.length_map,vS,vcd,↓vcp,seval]
  repeat' first|((first|refine tp hP (by first|exact cr|exact cf) ?_|refine tg hP (fun _=>by first|exact cr|exact cf) ?_|refine tv hP rfl (by first|exact cr|exact cf) ?_);try simp only [vcd,↓vcp,seval])|refine ⟨fun h=>?_,fun h=>?_⟩|refine aO ?_|refine aT ?_|fail
  all_goals exact RetK.pure (by simp only [rs30,rsb,vcd,↓vcp,seval]) (by (simp only [rs30,rsb,enb,vcd,↓vcp,seval])<;>(first|exact VLe.refl _))
 |true =>
 rw [hF] at cf
 have e:sumS P a b=sumG 0 0 (pcL P a b):=by rw [sumS,hR,hF];rfl
 obtain ⟨hS1,hS2⟩:=stG_iff hR
 have hfb:1≤a∧a<b∧b≤292195:=by simp only [fullB,Bool.and_eq_true,decide_eq_true_eq] at hF;omega
 have hcut:Cut (valS P) a b (pcL P a b):=pieG_cut (by omega) (List.pairwise_map.2 hS2) fun d hd=>.inr hd
 have hpo:=cut_ok hcut hfb.1 hfb.2.2 (fun d=>by
  rcases valG_mem (P:=P) (cur:=0) (day:=d) with h|⟨p,hp,h⟩
  ·rw [valS,h];omega
  ·rw [valS,h];exact ⟨(hS1 p hp).2.2.1,(hS1 p hp).2.2.2⟩)
 have hI:=it_pieces P a b hS2 hl
 rw [e]
 refine ctr_pureL Tryz.func30 ok30 rfl cc30 cr30 Tryz.ntmps30 (by simp) rfl rfl ?_;intro c hP hfn hrd;simp only [kc30,vSt,cSt,slK,List.length_map,vS,vcd,↓vcp,seval]
 repeat' first|((first|refine tp hP (by first|exact cr|exact cf|exact cp) ?_|refine tg hP (fun _=>by first|exact cr|exact cf|exact cp) ?_|refine tv hP rfl (by first|exact cr|exact cf|exact cp) ?_);try simp only [vcd,↓vcp,seval])|refine ⟨fun h=>?_,fun h=>?_⟩|refine aO ?_|refine aT ?_|fail
 rw [←hP] at hI
 have hpk:∀ k,k<(pcL P a b).length→PcOk ((pcL P a b).getD k default)∧(pcL P a b)[k]?=some ((pcL P a b).getD k default):=fun k hk=>by
  obtain ⟨x,-,hg,hm,he⟩:=drop_at hk
  rw [hg];exact ⟨hpo x hm,he⟩
 clear cr cf cp
 rcases bad_or (pcL P a b) (pcL P a b).length (Nat.le_refl _) with ⟨K,p,hK,hp,hbad,hnb⟩|hnb
 ·have hres:sumG 0 0 (pcL P a b)=(0,5):=by rw [sumG_take (k:=K) (by omega) hnb,sumG_drop hp,if_pos hbad]
  rw [hres]
  refine vcC.rfnJ hI (K+1) (some .ret) (smEn P a b) [4,5,6,7] (fun k=>smOw (if k=K+1 then 5 else 0) (if k=K+1 then (runG (pcL P a b) K).1 else (runG (pcL P a b) k).1) (if k=K+1 then (runG (pcL P a b) K).2 else (runG (pcL P a b) k).2)) (fun k=>smO1 ((pcL P a b).getD k default) (runG (pcL P a b) k).1 (runG (pcL P a b) k).2) (fun k=>smE1 ((pcL P a b).getD k default)) ?_ rfl trivial
   ⟨hrd,sm_cli _ _ _,sm_cli1 _ _ _,fun n hn=>(by rw [hfn] at hn;cases hn),sm_env P a b,rfl,fun _=>rfl,fun _=>rfl,fun h=>(by cases h),fun _=>⟨by omega,by omega⟩,fun h=>(by cases h)⟩ ?_ ?_ (fun h=>by cases h) ?_
  ·refine Wk.of (b:=⟨smEn P a b,smOw 0 0 0,[4,5,6,7]⟩) _ hfn rfl ?_ ?_
   ·simp only [smEn,enb,vcd,↓vcp,seval]
   ·simp only [smOw,enb,vcd,↓vcp,seval]
  ·intro k hk cB hPB hfB
   have hne:¬ k=K+1:=by omega
   generalize runG (pcL P a b) k=r at *
   simp only [hne,if_false,setPs,pcArgs,vS,smOw,smEn,pcF,vcd,↓vcp,seval]
   rw [rfnA_nrm]
   refine Wk.of (b:=⟨smE1 ((pcL P a b).getD k default),smO1 ((pcL P a b).getD k default) r.1 r.2,[4,5,6,7,8]⟩) _ hfB rfl ?_ ?_
   ·simp only [smE1,enb,vcd,↓vcp,seval]
   ·simp only [smO1,enb,vcd,↓vcp,seval]
  ·intro k hk cB hPB hfB
   have hnb':∀ j q,j<k→(pcL P a b)[j]?=some q→¬ badP (runG (pcL P a b) j).2 q:=fun j q hj hq=>hnb j q (by omega) hq
   obtain ⟨i1,i2,i3,i4⟩:=run_inv hpo (k:=k) (by omega) hnb'
   obtain ⟨po,pe⟩:=hpk k (by omega)
   by_cases hkK:k=K
   ·subst hkK
    have hg:goAt (k+1) (some Ex.ret).isSome k=false:=by simp [goAt]
    rw [hp] at pe
    injection pe with pe
    rw [←pe] at po ⊢
    generalize runG (pcL P a b) k=r at *
    obtain ⟨r1,r2⟩:=r
    simp only at i1 i2 i3 i4
    obtain ⟨⟨q1,q2⟩,v⟩:=p
    obtain ⟨p1,p2,p3,p4,p5⟩:=po
    simp only at p1 p2 p3 p4 p5
    simp only [badP] at hbad
    have wn:IntKind.i64.wrap (q2-q1)=q2-q1:=wI (by omega)
    have wv:IntKind.i64.wrap (0-v)=-v:=(wI (by omega)).trans (by omega)
    have wm:IntKind.i64.wrap (4000000000000000000-r2)=4000000000000000000-r2:=wI (by omega)
    have hq:(4000000000000000000-r2).tdiv (q2-q1)=(4000000000000000000-r2) / (q2-q1):=Int.tdiv_eq_ediv_of_nonneg (by omega)
    have hq0:0≤(4000000000000000000-r2) / (q2-q1):=Int.ediv_nonneg (by omega) (by omega)
    have hq1:(4000000000000000000-r2) / (q2-q1)≤4000000000000000000-r2:=Int.ediv_le_self _ (by omega)
    have wq:IntKind.i64.wrap ((4000000000000000000-r2).tdiv (q2-q1))=(4000000000000000000-r2) / (q2-q1):=by rw [hq];exact wI (by omega)
    have hz:q2-q1≠0:=by omega
    have d0:decide (max v (-v)>(4000000000000000000-r2) / (q2-q1))=true:=decide_eq_true hbad
    simp only [hg,if_true]
    simp only [smO1,smE1,smOw,wn,wv,wm,wq,d0,vcd,↓vcp,seval]
    repeat' first|refine ⟨fun h=>?_,fun h=>?_⟩|refine aO ?_|refine aT ?_|fail
    all_goals exact Wk.of (b:=⟨[],smOw 5 r1 r2,[4,5,6,7]⟩) _ hfB rfl (by simp only [enb,vcd,↓vcp,seval]) (by simp only [smOw,enb,vcd,↓vcp,seval])
   ·have hg:goAt (K+1) (some Ex.ret).isSome k=true:=by simp [goAt];omega
    have hne:¬ k+1=K+1:=by omega
    have hsu:=runG_succ pe
    have hbk:=hnb k _ (by omega) pe
    rw [hsu]
    generalize (pcL P a b).getD k default=p at *
    generalize runG (pcL P a b) k=r at *
    obtain ⟨r1,r2⟩:=r
    simp only at i1 i2 i3 i4
    obtain ⟨⟨q1,q2⟩,v⟩:=p
    have hnbd:=mt (badP_iff (all:=r2) po).2 hbk
    obtain ⟨p1,p2,p3,p4,p5⟩:=po
    simp only at p1 p2 p3 p4 p5 hnbd
    simp only [badP] at hbk
    have wn:IntKind.i64.wrap (q2-q1)=q2-q1:=wI (by omega)
    have wv:IntKind.i64.wrap (0-v)=-v:=(wI (by omega)).trans (by omega)
    have wm:IntKind.i64.wrap (4000000000000000000-r2)=4000000000000000000-r2:=wI (by omega)
    have hq:(4000000000000000000-r2).tdiv (q2-q1)=(4000000000000000000-r2) / (q2-q1):=Int.tdiv_eq_ediv_of_nonneg (by omega)
    have hq0:0≤(4000000000000000000-r2) / (q2-q1):=Int.ediv_nonneg (by omega) (by omega)
    have hq1:(4000000000000000000-r2) / (q2-q1)≤4000000000000000000-r2:=Int.ediv_le_self _ (by omega)
    have wq:IntKind.i64.wrap ((4000000000000000000-r2).tdiv (q2-q1))=(4000000000000000000-r2) / (q2-q1):=by rw [hq];exact wI (by omega)
    have hz:q2-q1≠0:=by omega
    have hn:0≤q2-q1:=by omega
    have m1:=Int.mul_le_mul_of_nonneg_left (show v≤max v (-v) by omega) hn
    have m2:=Int.mul_le_mul_of_nonneg_left (show -v≤max v (-v) by omega) hn
    rw [Int.mul_neg] at m2
    have m3:0≤(q2-q1)*max v (-v):=Int.mul_nonneg hn (by omega)
    have d0:decide (max v (-v)>(4000000000000000000-r2) / (q2-q1))=false:=decide_eq_false hbk
    have wx:IntKind.i64.wrap ((q2-q1)*v)=(q2-q1)*v:=wI (by omega)
    have wy:IntKind.i64.wrap ((q2-q1)*max v (-v))=(q2-q1)*max v (-v):=wI (by omega)
    have w1:IntKind.i64.wrap (r1+(q2-q1)*v)=r1+(q2-q1)*v:=wI (by omega)
    have w2:IntKind.i64.wrap (r2+(q2-q1)*max v (-v))=r2+(q2-q1)*max v (-v):=wI (by omega)
    clear m1 m2 m3 hq hq0 hq1 hnbd hbk
    simp only [hg,hne,if_false]
    simp only [smO1,smE1,smOw,wn,wv,wm,wq,d0,wx,wy,w1,w2,vcd,↓vcp,seval]
    repeat' first|refine ⟨fun h=>?_,fun h=>?_⟩|refine aO ?_|refine aT ?_|fail
    all_goals exact Wk.of (b:=⟨[],smOw 0 (r1+(q2-q1)*v) (r2+(q2-q1)*max v (-v)),[4,5,6,7]⟩) _ hfB rfl (by simp only [enb,vcd,↓vcp,seval]) (by simp only [smOw,w1,w2,enb,vcd,↓vcp,seval])
  ·intro e he
   injection he with he
   subst he
   simp only [if_true,smEn,pcF,smOw,vcd,↓vcp,seval]
   exact RetK.pure (by simp only [rs30,rsb,vcd,↓vcp,seval]) (by (simp only [rs30,rsb,enb,vcd,↓vcp,seval])<;>(first|exact VLe.refl _))
 ·have hres:sumG 0 0 (pcL P a b)=((runG (pcL P a b) (pcL P a b).length).1,0):=by rw [sumG_take (Nat.le_refl _) hnb,List.drop_length];rfl
  rw [hres]
  refine vcC.rfnAll hI (smEn P a b) [4,5,6,7] (fun k=>smOw 0 (runG (pcL P a b) k).1 (runG (pcL P a b) k).2) (fun k=>smO1 ((pcL P a b).getD k default) (runG (pcL P a b) k).1 (runG (pcL P a b) k).2) (fun k=>smE1 ((pcL P a b).getD k default)) ?_ rfl trivial
   ⟨hrd,sm_cli _ _ _,sm_cli1 _ _ _,fun n hn=>(by rw [hfn] at hn;cases hn),sm_env P a b,rfl,fun _=>rfl,fun _=>rfl,fun _=>rfl,fun h=>absurd rfl h,fun h=>(by cases h)⟩ ?_ ?_ ?_
  ·refine Wk.of (b:=⟨smEn P a b,smOw 0 0 0,[4,5,6,7]⟩) _ hfn rfl ?_ ?_
   ·simp only [smEn,enb,vcd,↓vcp,seval]
   ·simp only [smOw,enb,vcd,↓vcp,seval]
  ·intro k hk cB hPB hfB
   generalize runG (pcL P a b) k=r at *
   simp only [setPs,pcArgs,vS,smOw,smEn,pcF,vcd,↓vcp,seval]
   rw [rfnA_nrm]
   refine Wk.of (b:=⟨smE1 ((pcL P a b).getD k default),smO1 ((pcL P a b).getD k default) r.1 r.2,[4,5,6,7,8]⟩) _ hfB rfl ?_ ?_
   ·simp only [smE1,enb,vcd,↓vcp,seval]
   ·simp only [smO1,enb,vcd,↓vcp,seval]
  ·intro k hk cB hPB hfB
   have hnb':∀ j q,j<k→(pcL P a b)[j]?=some q→¬ badP (runG (pcL P a b) j).2 q:=fun j q hj hq=>hnb j q (by omega) hq
   obtain ⟨i1,i2,i3,i4⟩:=run_inv hpo (k:=k) (by omega) hnb'
   obtain ⟨po,pe⟩:=hpk k hk
   have hsu:=runG_succ pe
   have hbk:=hnb k _ hk pe
   rw [hsu]
   generalize (pcL P a b).getD k default=p at *
   generalize runG (pcL P a b) k=r at *
   obtain ⟨r1,r2⟩:=r
   simp only at i1 i2 i3 i4
   obtain ⟨⟨q1,q2⟩,v⟩:=p
   have hnbd:=mt (badP_iff (all:=r2) po).2 hbk
   obtain ⟨p1,p2,p3,p4,p5⟩:=po
   simp only at p1 p2 p3 p4 p5 hnbd
   simp only [badP] at hbk
   have wn:IntKind.i64.wrap (q2-q1)=q2-q1:=wI (by omega)
   have wv:IntKind.i64.wrap (0-v)=-v:=(wI (by omega)).trans (by omega)
   have wm:IntKind.i64.wrap (4000000000000000000-r2)=4000000000000000000-r2:=wI (by omega)
   have hq:(4000000000000000000-r2).tdiv (q2-q1)=(4000000000000000000-r2) / (q2-q1):=Int.tdiv_eq_ediv_of_nonneg (by omega)
   have hq0:0≤(4000000000000000000-r2) / (q2-q1):=Int.ediv_nonneg (by omega) (by omega)
   have hq1:(4000000000000000000-r2) / (q2-q1)≤4000000000000000000-r2:=Int.ediv_le_self _ (by omega)
   have wq:IntKind.i64.wrap ((4000000000000000000-r2).tdiv (q2-q1))=(4000000000000000000-r2) / (q2-q1):=by rw [hq];exact wI (by omega)
   have hz:q2-q1≠0:=by omega
   have hn:0≤q2-q1:=by omega
   have m1:=Int.mul_le_mul_of_nonneg_left (show v≤max v (-v) by omega) hn
   have m2:=Int.mul_le_mul_of_nonneg_left (show -v≤max v (-v) by omega) hn
   rw [Int.mul_neg] at m2
   have m3:0≤(q2-q1)*max v (-v):=Int.mul_nonneg hn (by omega)
   have d0:decide (max v (-v)>(4000000000000000000-r2) / (q2-q1))=false:=decide_eq_false hbk
   have wx:IntKind.i64.wrap ((q2-q1)*v)=(q2-q1)*v:=wI (by omega)
   have wy:IntKind.i64.wrap ((q2-q1)*max v (-v))=(q2-q1)*max v (-v):=wI (by omega)
   have w1:IntKind.i64.wrap (r1+(q2-q1)*v)=r1+(q2-q1)*v:=wI (by omega)
   have w2:IntKind.i64.wrap (r2+(q2-q1)*max v (-v))=r2+(q2-q1)*max v (-v):=wI (by omega)
   clear m1 m2 m3 hq hq0 hq1 hnbd hbk
   skip
   simp only [smO1,smE1,smOw,wn,wv,wm,wq,d0,wx,wy,w1,w2,vcd,↓vcp,seval]
   repeat' first|refine ⟨fun h=>?_,fun h=>?_⟩|refine aO ?_|refine aT ?_|fail
   all_goals exact Wk.of (b:=⟨[],smOw 0 (r1+(q2-q1)*v) (r2+(q2-q1)*max v (-v)),[4,5,6,7]⟩) _ hfB rfl (by simp only [enb,vcd,↓vcp,seval]) (by simp only [smOw,w1,w2,enb,vcd,↓vcp,seval])
  ·generalize runG (pcL P a b) (pcL P a b).length=r at *
   simp only [smEn,pcF,smOw,vcd,↓vcp,seval]
   exact RetK.pure (by simp only [rs30,rsb,vcd,↓vcp,seval]) (by (simp only [rs30,rsb,enb,vcd,↓vcp,seval])<;>(first|exact VLe.refl _))
end Go.Proofs.YtanppabbmffokaaGreat
end
section
namespace Go.Proofs.YtanppabbmffokaaGreat
open Go.Bx
set_option maxRecDepth 10000
theorem sFullSl (s:Sl) (e:Int):Ctr Tryz.prog 98 [vSl s,.d (.int .i64 e)] [] (.d (.bool (fullSl s e))) [] []:=by
 refine ctr_pure Tryz.func98 ok98 rfl cc98 cr98 Tryz.ntmps98 (by simp) rfl rfl ?_;intro c hP hfn;simp only [kc98,vSl,cSl,slC,vcd,↓vcp,seval]
 repeat' first|refine ⟨fun h=>?_,fun h=>?_⟩|refine aO ?_|refine aT ?_|fail
 exact RetK.pure (by simp only [rs98,rsb,vcd,↓vcp,seval]) (by (simp only [rs98,rsb,enb,vcd,↓vcp,seval])<;>(first|simp only [fullSl,Bool.and_assoc]))
def popC (P:List (Int×Int)) (day:Int):Prop:=0<P.length∧(P.getD (P.length-1) (0,0)).1=day
def pushC (P:List (Int×Int)) (day v:Int):Prop:=v≠(P.getD (P.length-1) (0,0)).2∧day≤292194
instance (P:List (Int×Int)) (day:Int):Decidable (popC P day):=inferInstanceAs (Decidable (_∧_))
instance (P:List (Int×Int)) (day v:Int):Decidable (pushC P day v):=inferInstanceAs (Decidable (_∧_))
def rowA (P:List (Int×Int)):Go.Bx.Own:=.row 3 1 P.length (fun i=>[.int .i64 (P.getD i (0,0)).1])
def rowV (P:List (Int×Int)):Go.Bx.Own:=.row 3 1 P.length (fun i=>[.int .i64 (P.getD i (0,0)).2])
theorem take_getD {P:List (Int×Int)} {n i:Nat} (h:i<n):(P.take n).getD i (0,0)=P.getD i (0,0):=by
 simp [List.getD_eq_getElem?_getD,List.getElem?_take,h]
set_option maxHeartbeats 2000000 in
theorem sAdd11 (P:List (Int×Int)) (day v:Int) (hl:P.length≤100000) (hc:popC P day) (hp:pushC (popP P day) day v) :
  Ctr Tryz.prog 97 [.d (.int .i64 day),.d (.int .i64 v),.own 903 0] [(903,.fix [.osl 1000,.osl 1001]),(1000,rowA P),(1001,rowV P)] (.tup []) [(903,.fix [.osl 1002,.osl 1003]),(1002,rowA (addP P day v)),(1003,rowV (addP P day v))] [1002,1003]:=by
 refine ctr_ownW Tryz.func97 ok97 rfl cc97 cr97 Tryz.ntmps97 (by simp) rfl ?_
 intro c hP hfn
 have e:popP P day=(P.take (P.length-1)):=if_pos hc
 have e2:addP P day v=((P.take (P.length-1))++[(day,v)]):=(if_pos hp).trans (by rw [e])
 rw [e] at hp
 rw [e2]
 obtain ⟨h1,h2⟩:=hc
 have d0:decide ((P.length:Int)>0)=true:=decide_eq_true (by omega)
 have w1:IntKind.i64.wrap ((P.length:Int)-1)=((P.length-1:Nat):Int):=(wI (by omega)).trans (by omega)
 have b1:(0:Int)≤((P.length-1:Nat):Int)∧((P.length-1:Nat):Int)<(P.length:Int):=by omega
 have b2:(0:Int)≤((P.length-1:Nat):Int)∧((P.length-1:Nat):Int)≤(P.length:Int):=by omega
 have d1:((P.getD (P.length-1) (0,0)).1 == day)=true:=beq_iff_eq.2 h2
 simp only [namesL,V.names,ownNames,rowA,rowV,d0,w1,d1,vcd,↓vcp,seval]
 repeat' first|refine ⟨fun h=>?_,fun h=>?_⟩|refine aO ?_|refine aT ?_|fail
 rw [seqW_nrm]
 refine ⟨⟨[(0,.d (.int .i64 day)),(1,.d (.int .i64 v)),(2,.own 903 0)],[(903,.fix [.osl 1004,.osl 1005]),(1004,rowA (P.take (P.length-1))),(1005,rowV (P.take (P.length-1)))],[903,1000,1001,1004,1005]⟩,(Wk.shr 1000 1004 (P.length-1) rfl (by omega) (by simp)).trans ((Wk.shr 1001 1005 (P.length-1) rfl (by omega) (by simp)).trans (Wk.of _ hfn rfl (by simp only [enb,vcd,↓vcp,seval]) ?_)),?_⟩
 ·simp only [rowA,rowV,enb,vcd,↓vcp,seval]
  exact ⟨OLe.row (by rw [List.length_take];omega) fun i hi=>by rw [take_getD hi],OLe.row (by rw [List.length_take];omega) fun i hi=>by rw [take_getD hi]⟩
 clear d0 w1 b1 b2 d1 h2 e e2
 have hQl:(P.take (P.length-1)).length≤100000:=by rw [List.length_take];omega
 generalize P.take (P.length-1)=Q at *
 by_cases h0:Q.length=0
 ·have hx:((v != (Q.getD (Q.length-1) (0,0)).2)&&decide (day≤292194))=true:=by rw [Bool.and_eq_true,bne_iff_ne,decide_eq_true_eq];exact hp
  have hroom:(Q.length+1)*8≤140737488355328∧Q.length+1≤maxLen:=⟨by omega,by simp only [maxLen];omega⟩
  have g0:decide ((Q.length:Int)>0)=false:=decide_eq_false (by omega)
  have gl:(Q.getD (Q.length-1) (0,0)).2=0:=by
   have:Q=[]:=List.eq_nil_of_length_eq_zero (by omega)
   rw [this];rfl
  rw [gl] at hx
  simp only [rowA,rowV,g0,hx,vcd,↓vcp,seval]
  repeat' first|refine ⟨fun h=>?_,fun h=>?_⟩|refine aO ?_|refine aT ?_|fail
  refine RetK.mk' _ ((Wk.sw 57 1002 _ hfn (by simp [namesL,V.names,ownNames,rowA,rowV]) (by simp [namesL,V.names,ownNames,rowA,rowV])).trans (Wk.sw 62 1003 _ hfn (by simp [namesL,V.names,ownNames,rowA,rowV]) (by simp [namesL,V.names,ownNames,rowA,rowV]))) (by simp only [rs97,rsb,vcd,↓vcp,seval]) (by simp only [rs97,rsb,enb,vcd,↓vcp,seval]) ?_
  simp only [rowA,rowV,enb,vcd,↓vcp,seval]
  exact ⟨OLe.app1 (fun p:Int×Int=>[.int .i64 p.1]) (fun i hi=>by simp [hi]) (by simp [litRow]),OLe.app1 (fun p:Int×Int=>[.int .i64 p.2]) (fun i hi=>by simp [hi]) (by simp [litRow])⟩
 ·have hx:((v != (Q.getD (Q.length-1) (0,0)).2)&&decide (day≤292194))=true:=by rw [Bool.and_eq_true,bne_iff_ne,decide_eq_true_eq];exact hp
  have hroom:(Q.length+1)*8≤140737488355328∧Q.length+1≤maxLen:=⟨by omega,by simp only [maxLen];omega⟩
  have g0:decide ((Q.length:Int)>0)=true:=decide_eq_true (by omega)
  have v1:IntKind.i64.wrap ((Q.length:Int)-1)=((Q.length-1:Nat):Int):=(wI (by omega)).trans (by omega)
  have c1:(0:Int)≤((Q.length-1:Nat):Int)∧((Q.length-1:Nat):Int)<(Q.length:Int):=by omega
  simp only [rowA,rowV,g0,v1,hx,vcd,↓vcp,seval]
  repeat' first|refine ⟨fun h=>?_,fun h=>?_⟩|refine aO ?_|refine aT ?_|fail
  refine RetK.mk' _ ((Wk.sw 57 1002 _ hfn (by simp [namesL,V.names,ownNames,rowA,rowV]) (by simp [namesL,V.names,ownNames,rowA,rowV])).trans (Wk.sw 62 1003 _ hfn (by simp [namesL,V.names,ownNames,rowA,rowV]) (by simp [namesL,V.names,ownNames,rowA,rowV]))) (by simp only [rs97,rsb,vcd,↓vcp,seval]) (by simp only [rs97,rsb,enb,vcd,↓vcp,seval]) ?_
  simp only [rowA,rowV,enb,vcd,↓vcp,seval]
  exact ⟨OLe.app1 (fun p:Int×Int=>[.int .i64 p.1]) (fun i hi=>by simp [hi]) (by simp [litRow]),OLe.app1 (fun p:Int×Int=>[.int .i64 p.2]) (fun i hi=>by simp [hi]) (by simp [litRow])⟩
set_option maxHeartbeats 2000000 in
theorem sAdd10 (P:List (Int×Int)) (day v:Int) (hl:P.length≤100000) (hc:popC P day) (hp:¬ pushC (popP P day) day v) :
  Ctr Tryz.prog 97 [.d (.int .i64 day),.d (.int .i64 v),.own 903 0] [(903,.fix [.osl 1000,.osl 1001]),(1000,rowA P),(1001,rowV P)] (.tup []) [(903,.fix [.osl 1002,.osl 1003]),(1002,rowA (addP P day v)),(1003,rowV (addP P day v))] [1002,1003]:=by
 refine ctr_ownW Tryz.func97 ok97 rfl cc97 cr97 Tryz.ntmps97 (by simp) rfl ?_
 intro c hP hfn
 have e:popP P day=(P.take (P.length-1)):=if_pos hc
 have e2:addP P day v=(P.take (P.length-1)):=(if_neg hp).trans (by rw [e])
 rw [e] at hp
 rw [e2]
 obtain ⟨h1,h2⟩:=hc
 have d0:decide ((P.length:Int)>0)=true:=decide_eq_true (by omega)
 have w1:IntKind.i64.wrap ((P.length:Int)-1)=((P.length-1:Nat):Int):=(wI (by omega)).trans (by omega)
 have b1:(0:Int)≤((P.length-1:Nat):Int)∧((P.length-1:Nat):Int)<(P.length:Int):=by omega
 have b2:(0:Int)≤((P.length-1:Nat):Int)∧((P.length-1:Nat):Int)≤(P.length:Int):=by omega
 have d1:((P.getD (P.length-1) (0,0)).1 == day)=true:=beq_iff_eq.2 h2
 simp only [namesL,V.names,ownNames,rowA,rowV,d0,w1,d1,vcd,↓vcp,seval]
 repeat' first|refine ⟨fun h=>?_,fun h=>?_⟩|refine aO ?_|refine aT ?_|fail
 rw [seqW_nrm]
 refine ⟨⟨[(0,.d (.int .i64 day)),(1,.d (.int .i64 v)),(2,.own 903 0)],[(903,.fix [.osl 1004,.osl 1005]),(1004,rowA (P.take (P.length-1))),(1005,rowV (P.take (P.length-1)))],[903,1000,1001,1004,1005]⟩,(Wk.shr 1000 1004 (P.length-1) rfl (by omega) (by simp)).trans ((Wk.shr 1001 1005 (P.length-1) rfl (by omega) (by simp)).trans (Wk.of _ hfn rfl (by simp only [enb,vcd,↓vcp,seval]) ?_)),?_⟩
 ·simp only [rowA,rowV,enb,vcd,↓vcp,seval]
  exact ⟨OLe.row (by rw [List.length_take];omega) fun i hi=>by rw [take_getD hi],OLe.row (by rw [List.length_take];omega) fun i hi=>by rw [take_getD hi]⟩
 clear d0 w1 b1 b2 d1 h2 e e2
 have hQl:(P.take (P.length-1)).length≤100000:=by rw [List.length_take];omega
 generalize P.take (P.length-1)=Q at *
 by_cases h0:Q.length=0
 ·have hx:((v != (Q.getD (Q.length-1) (0,0)).2)&&decide (day≤292194))=false:=by
   rw [Bool.and_eq_false_iff,bne_eq_false_iff_eq,decide_eq_false_iff_not]
   by_cases h:v=(Q.getD (Q.length-1) (0,0)).2
   ·exact .inl h
   ·exact .inr fun g=>hp ⟨h,g⟩
  have hroom:(Q.length+1)*8≤140737488355328∧Q.length+1≤maxLen:=⟨by omega,by simp only [maxLen];omega⟩
  have g0:decide ((Q.length:Int)>0)=false:=decide_eq_false (by omega)
  have gl:(Q.getD (Q.length-1) (0,0)).2=0:=by
   have:Q=[]:=List.eq_nil_of_length_eq_zero (by omega)
   rw [this];rfl
  rw [gl] at hx
  simp only [rowA,rowV,g0,hx,vcd,↓vcp,seval]
  repeat' first|refine ⟨fun h=>?_,fun h=>?_⟩|refine aO ?_|refine aT ?_|fail
  refine RetK.mk' _ ((Wk.sw 1004 1002 _ hfn (by simp [namesL,V.names,ownNames,rowA,rowV]) (by simp [namesL,V.names,ownNames,rowA,rowV])).trans (Wk.sw 1005 1003 _ hfn (by simp [namesL,V.names,ownNames,rowA,rowV]) (by simp [namesL,V.names,ownNames,rowA,rowV]))) (by simp only [rs97,rsb,vcd,↓vcp,seval]) (by simp only [rs97,rsb,enb,vcd,↓vcp,seval]) ?_
  simp only [rowA,rowV,enb,vcd,↓vcp,seval]
 ·have hx:((v != (Q.getD (Q.length-1) (0,0)).2)&&decide (day≤292194))=false:=by
   rw [Bool.and_eq_false_iff,bne_eq_false_iff_eq,decide_eq_false_iff_not]
   by_cases h:v=(Q.getD (Q.length-1) (0,0)).2
   ·exact .inl h
   ·exact .inr fun g=>hp ⟨h,g⟩
  have hroom:(Q.length+1)*8≤140737488355328∧Q.length+1≤maxLen:=⟨by omega,by simp only [maxLen];omega⟩
  have g0:decide ((Q.length:Int)>0)=true:=decide_eq_true (by omega)
  have v1:IntKind.i64.wrap ((Q.length:Int)-1)=((Q.length-1:Nat):Int):=(wI (by omega)).trans (by omega)
  have c1:(0:Int)≤((Q.length-1:Nat):Int)∧((Q.length-1:Nat):Int)<(Q.length:Int):=by omega
  simp only [rowA,rowV,g0,v1,hx,vcd,↓vcp,seval]
  repeat' first|refine ⟨fun h=>?_,fun h=>?_⟩|refine aO ?_|refine aT ?_|fail
  refine RetK.mk' _ ((Wk.sw 1004 1002 _ hfn (by simp [namesL,V.names,ownNames,rowA,rowV]) (by simp [namesL,V.names,ownNames,rowA,rowV])).trans (Wk.sw 1005 1003 _ hfn (by simp [namesL,V.names,ownNames,rowA,rowV]) (by simp [namesL,V.names,ownNames,rowA,rowV]))) (by simp only [rs97,rsb,vcd,↓vcp,seval]) (by simp only [rs97,rsb,enb,vcd,↓vcp,seval]) ?_
  simp only [rowA,rowV,enb,vcd,↓vcp,seval]
set_option maxHeartbeats 2000000 in
theorem sAdd01 (P:List (Int×Int)) (day v:Int) (hl:P.length≤100000) (hc:¬ popC P day) (hp:pushC (popP P day) day v) :
  Ctr Tryz.prog 97 [.d (.int .i64 day),.d (.int .i64 v),.own 903 0] [(903,.fix [.osl 1000,.osl 1001]),(1000,rowA P),(1001,rowV P)] (.tup []) [(903,.fix [.osl 1002,.osl 1003]),(1002,rowA (addP P day v)),(1003,rowV (addP P day v))] [1002,1003]:=by
 refine ctr_ownW Tryz.func97 ok97 rfl cc97 cr97 Tryz.ntmps97 (by simp) rfl ?_
 intro c hP hfn
 have e:popP P day=P:=if_neg hc
 have e2:addP P day v=(P++[(day,v)]):=(if_pos hp).trans (by rw [e])
 rw [e] at hp
 rw [e2]
 have hcond:(decide ((P.length:Int)>0)&&((P.getD (P.length-1) (0,0)).1 == day))=false:=by
  rw [Bool.and_eq_false_iff,decide_eq_false_iff_not,beq_eq_false_iff_ne]
  by_cases h:0<P.length
  ·exact .inr fun e=>hc ⟨h,e⟩
  ·exact .inl (by omega)
 by_cases h0:P.length=0
 ·have d0:decide ((P.length:Int)>0)=false:=decide_eq_false (by omega)
  simp only [namesL,V.names,ownNames,rowA,rowV,d0,vcd,↓vcp,seval]
  repeat' first|refine ⟨fun h=>?_,fun h=>?_⟩|refine aO ?_|refine aT ?_|fail
  rw [seqW_nrm]
  refine ⟨⟨[(0,.d (.int .i64 day)),(1,.d (.int .i64 v)),(2,.own 903 0)],[(903,.fix [.osl 1000,.osl 1001]),(1000,rowA P),(1001,rowV P)],[903,1000,1001]⟩,Wk.of _ hfn rfl (by simp only [enb,vcd,↓vcp,seval]) (by simp only [rowA,rowV,enb,vcd,↓vcp,seval]),?_⟩
  have hx:((v != (P.getD (P.length-1) (0,0)).2)&&decide (day≤292194))=true:=by rw [Bool.and_eq_true,bne_iff_ne,decide_eq_true_eq];exact hp
  have hroom:(P.length+1)*8≤140737488355328∧P.length+1≤maxLen:=⟨by omega,by simp only [maxLen];omega⟩
  have g0:decide ((P.length:Int)>0)=false:=decide_eq_false (by omega)
  have gl:(P.getD (P.length-1) (0,0)).2=0:=by
   have:P=[]:=List.eq_nil_of_length_eq_zero (by omega)
   rw [this];rfl
  rw [gl] at hx
  simp only [rowA,rowV,g0,hx,vcd,↓vcp,seval]
  repeat' first|refine ⟨fun h=>?_,fun h=>?_⟩|refine aO ?_|refine aT ?_|fail
  refine RetK.mk' _ ((Wk.sw 57 1002 _ hfn (by simp [namesL,V.names,ownNames,rowA,rowV]) (by simp [namesL,V.names,ownNames,rowA,rowV])).trans (Wk.sw 62 1003 _ hfn (by simp [namesL,V.names,ownNames,rowA,rowV]) (by simp [namesL,V.names,ownNames,rowA,rowV]))) (by simp only [rs97,rsb,vcd,↓vcp,seval]) (by simp only [rs97,rsb,enb,vcd,↓vcp,seval]) ?_
  simp only [rowA,rowV,enb,vcd,↓vcp,seval]
  exact ⟨OLe.app1 (fun p:Int×Int=>[.int .i64 p.1]) (fun i hi=>by simp [hi]) (by simp [litRow]),OLe.app1 (fun p:Int×Int=>[.int .i64 p.2]) (fun i hi=>by simp [hi]) (by simp [litRow])⟩
 ·have d0:decide ((P.length:Int)>0)=true:=decide_eq_true (by omega)
  have w1:IntKind.i64.wrap ((P.length:Int)-1)=((P.length-1:Nat):Int):=(wI (by omega)).trans (by omega)
  have b1:(0:Int)≤((P.length-1:Nat):Int)∧((P.length-1:Nat):Int)<(P.length:Int):=by omega
  have d1:((P.getD (P.length-1) (0,0)).1 == day)=false:=by rw [d0,Bool.true_and] at hcond;exact hcond
  simp only [namesL,V.names,ownNames,rowA,rowV,d0,w1,d1,vcd,↓vcp,seval]
  repeat' first|refine ⟨fun h=>?_,fun h=>?_⟩|refine aO ?_|refine aT ?_|fail
  rw [seqW_nrm]
  refine ⟨⟨[(0,.d (.int .i64 day)),(1,.d (.int .i64 v)),(2,.own 903 0)],[(903,.fix [.osl 1000,.osl 1001]),(1000,rowA P),(1001,rowV P)],[903,1000,1001]⟩,Wk.of _ hfn rfl (by simp only [enb,vcd,↓vcp,seval]) (by simp only [rowA,rowV,enb,vcd,↓vcp,seval]),?_⟩
  clear d0 w1 b1 d1
  have hx:((v != (P.getD (P.length-1) (0,0)).2)&&decide (day≤292194))=true:=by rw [Bool.and_eq_true,bne_iff_ne,decide_eq_true_eq];exact hp
  have hroom:(P.length+1)*8≤140737488355328∧P.length+1≤maxLen:=⟨by omega,by simp only [maxLen];omega⟩
  have g0:decide ((P.length:Int)>0)=true:=decide_eq_true (by omega)
  have v1:IntKind.i64.wrap ((P.length:Int)-1)=((P.length-1:Nat):Int):=(wI (by omega)).trans (by omega)
  have c1:(0:Int)≤((P.length-1:Nat):Int)∧((P.length-1:Nat):Int)<(P.length:Int):=by omega
  simp only [rowA,rowV,g0,v1,hx,vcd,↓vcp,seval]
  repeat' first|refine ⟨fun h=>?_,fun h=>?_⟩|refine aO ?_|refine aT ?_|fail
  refine RetK.mk' _ ((Wk.sw 57 1002 _ hfn (by simp [namesL,V.names,ownNames,rowA,rowV]) (by simp [namesL,V.names,ownNames,rowA,rowV])).trans (Wk.sw 62 1003 _ hfn (by simp [namesL,V.names,ownNames,rowA,rowV]) (by simp [namesL,V.names,ownNames,rowA,rowV]))) (by simp only [rs97,rsb,vcd,↓vcp,seval]) (by simp only [rs97,rsb,enb,vcd,↓vcp,seval]) ?_
  simp only [rowA,rowV,enb,vcd,↓vcp,seval]
  exact ⟨OLe.app1 (fun p:Int×Int=>[.int .i64 p.1]) (fun i hi=>by simp [hi]) (by simp [litRow]),OLe.app1 (fun p:Int×Int=>[.int .i64 p.2]) (fun i hi=>by simp [hi]) (by simp [litRow])⟩
set_option maxHeartbeats 2000000 in
theorem sAdd00 (P:List (Int×Int)) (day v:Int) (hl:P.length≤100000) (hc:¬ popC P day) (hp:¬ pushC (popP P day) day v) :
  Ctr Tryz.prog 97 [.d (.int .i64 day),.d (.int .i64 v),.own 903 0] [(903,.fix [.osl 1000,.osl 1001]),(1000,rowA P),(1001,rowV P)] (.tup []) [(903,.fix [.osl 1000,.osl 1001]),(1000,rowA (addP P day v)),(1001,rowV (addP P day v))] []:=by
 refine ctr_ownW Tryz.func97 ok97 rfl cc97 cr97 Tryz.ntmps97 (by simp) rfl ?_
 intro c hP hfn
 have e:popP P day=P:=if_neg hc
 have e2:addP P day v=P:=(if_neg hp).trans (by rw [e])
 rw [e] at hp
 rw [e2]
 have hcond:(decide ((P.length:Int)>0)&&((P.getD (P.length-1) (0,0)).1 == day))=false:=by
  rw [Bool.and_eq_false_iff,decide_eq_false_iff_not,beq_eq_false_iff_ne]
  by_cases h:0<P.length
  ·exact .inr fun e=>hc ⟨h,e⟩
  ·exact .inl (by omega)
 by_cases h0:P.length=0
 ·have d0:decide ((P.length:Int)>0)=false:=decide_eq_false (by omega)
  simp only [namesL,V.names,ownNames,rowA,rowV,d0,vcd,↓vcp,seval]
  repeat' first|refine ⟨fun h=>?_,fun h=>?_⟩|refine aO ?_|refine aT ?_|fail
  rw [seqW_nrm]
  refine ⟨⟨[(0,.d (.int .i64 day)),(1,.d (.int .i64 v)),(2,.own 903 0)],[(903,.fix [.osl 1000,.osl 1001]),(1000,rowA P),(1001,rowV P)],[903,1000,1001]⟩,Wk.of _ hfn rfl (by simp only [enb,vcd,↓vcp,seval]) (by simp only [rowA,rowV,enb,vcd,↓vcp,seval]),?_⟩
  have hx:((v != (P.getD (P.length-1) (0,0)).2)&&decide (day≤292194))=false:=by
   rw [Bool.and_eq_false_iff,bne_eq_false_iff_eq,decide_eq_false_iff_not]
   by_cases h:v=(P.getD (P.length-1) (0,0)).2
   ·exact .inl h
   ·exact .inr fun g=>hp ⟨h,g⟩
  have hroom:(P.length+1)*8≤140737488355328∧P.length+1≤maxLen:=⟨by omega,by simp only [maxLen];omega⟩
  have g0:decide ((P.length:Int)>0)=false:=decide_eq_false (by omega)
  have gl:(P.getD (P.length-1) (0,0)).2=0:=by
   have:P=[]:=List.eq_nil_of_length_eq_zero (by omega)
   rw [this];rfl
  rw [gl] at hx
  simp only [rowA,rowV,g0,hx,vcd,↓vcp,seval]
  repeat' first|refine ⟨fun h=>?_,fun h=>?_⟩|refine aO ?_|refine aT ?_|fail
  refine RetK.mk' _ (Wk.refl _ _) (by simp only [rs97,rsb,vcd,↓vcp,seval]) (by simp only [rs97,rsb,enb,vcd,↓vcp,seval]) ?_
  simp only [rowA,rowV,enb,vcd,↓vcp,seval]
 ·have d0:decide ((P.length:Int)>0)=true:=decide_eq_true (by omega)
  have w1:IntKind.i64.wrap ((P.length:Int)-1)=((P.length-1:Nat):Int):=(wI (by omega)).trans (by omega)
  have b1:(0:Int)≤((P.length-1:Nat):Int)∧((P.length-1:Nat):Int)<(P.length:Int):=by omega
  have d1:((P.getD (P.length-1) (0,0)).1 == day)=false:=by rw [d0,Bool.true_and] at hcond;exact hcond
  simp only [namesL,V.names,ownNames,rowA,rowV,d0,w1,d1,vcd,↓vcp,seval]
  repeat' first|refine ⟨fun h=>?_,fun h=>?_⟩|refine aO ?_|refine aT ?_|fail
  rw [seqW_nrm]
  refine ⟨⟨[(0,.d (.int .i64 day)),(1,.d (.int .i64 v)),(2,.own 903 0)],[(903,.fix [.osl 1000,.osl 1001]),(1000,rowA P),(1001,rowV P)],[903,1000,1001]⟩,Wk.of _ hfn rfl (by simp only [enb,vcd,↓vcp,seval]) (by simp only [rowA,rowV,enb,vcd,↓vcp,seval]),?_⟩
  clear d0 w1 b1 d1
  have hx:((v != (P.getD (P.length-1) (0,0)).2)&&decide (day≤292194))=false:=by
   rw [Bool.and_eq_false_iff,bne_eq_false_iff_eq,decide_eq_false_iff_not]
   by_cases h:v=(P.getD (P.length-1) (0,0)).2
   ·exact .inl h
   ·exact .inr fun g=>hp ⟨h,g⟩
  have hroom:(P.length+1)*8≤140737488355328∧P.length+1≤maxLen:=⟨by omega,by simp only [maxLen];omega⟩
  have g0:decide ((P.length:Int)>0)=true:=decide_eq_true (by omega)
  have v1:IntKind.i64.wrap ((P.length:Int)-1)=((P.length-1:Nat):Int):=(wI (by omega)).trans (by omega)
  have c1:(0:Int)≤((P.length-1:Nat):Int)∧((P.length-1:Nat):Int)<(P.length:Int):=by omega
  simp only [rowA,rowV,g0,v1,hx,vcd,↓vcp,seval]
  repeat' first|refine ⟨fun h=>?_,fun h=>?_⟩|refine aO ?_|refine aT ?_|fail
  refine RetK.mk' _ (Wk.refl _ _) (by simp only [rs97,rsb,vcd,↓vcp,seval]) (by simp only [rs97,rsb,enb,vcd,↓vcp,seval]) ?_
  simp only [rowA,rowV,enb,vcd,↓vcp,seval]
end Go.Proofs.YtanppabbmffokaaGreat
end
section
namespace Go.Proofs.YtanppabbmffokaaGreat
open Go.Bx
set_option maxRecDepth 10000
theorem addP_len (P:List (Int×Int)) (d v:Int):(addP P d v).length≤P.length+1:=by
 unfold addP pushP popP
 split<;>split<;>(try simp only [List.length_append,List.length_take,List.length_singleton])<;>omega
theorem vle_slK1 {P:List (Int×Int)}:VLe (.d (.sl false 1 P.length (fun i=>[.int .i64 (P.getD i (0,0)).1]))) (.d (slK .i64 (P.map (·.1)))):=
 VLe.sl (by rw [List.length_map]) (fun _=>rfl) id fun i hi=>by
  obtain ⟨p,-,hg,-,he⟩:=drop_at hi
  rw [(map1 he).1,hg]
theorem vle_slK2 {P:List (Int×Int)}:VLe (.d (.sl false 1 P.length (fun i=>[.int .i64 (P.getD i (0,0)).2]))) (.d (slK .i64 (P.map (·.2)))):=
 VLe.sl (by rw [List.length_map]) (fun _=>rfl) id fun i hi=>by
  obtain ⟨p,-,hg,-,he⟩:=drop_at hi
  rw [(map1 he).2,hg]
theorem sAddN (P:List (Int×Int)) (day v:Int) (hl:P.length≤100000) (h:popC P day∨pushC (popP P day) day v) :
  Ctr Tryz.prog 97 [.d (.int .i64 day),.d (.int .i64 v),.own 903 0] [(903,.fix [.osl 1000,.osl 1001]),(1000,rowA P),(1001,rowV P)] (.tup []) [(903,.fix [.osl 1002,.osl 1003]),(1002,rowA (addP P day v)),(1003,rowV (addP P day v))] [1002,1003]:=by
 by_cases h1:popC P day
 ·by_cases h2:pushC (popP P day) day v
  ·exact sAdd11 P day v hl h1 h2
  ·exact sAdd10 P day v hl h1 h2
 ·exact sAdd01 P day v hl h1 (h.resolve_left h1)
set_option maxHeartbeats 4000000 in
theorem sCurve (l:List Sl) (P0:List (Int×Int)) (h:curS l=some P0):Ctr Tryz.prog 55 [.d (slS l)] [] (vSt P0) [] []:=by
 have hlen:l.length≤2000:=(curS_ok h).2.1
 have hG:curG [] 1 l=some P0:=by rw [curS,if_neg (by omega)] at h;exact h
 have dl:decide ((l.length:Int)>2000)=false:=decide_eq_false (by omega)
 refine ctr_pure Tryz.func55 ok55 rfl cc55 cr55 Tryz.ntmps55 (by simp) rfl rfl ?_;intro c hP hfn;simp only [kc55,slS,dl,vcd,↓vcp,seval]
 repeat' first|refine ⟨fun h=>?_,fun h=>?_⟩|refine aO ?_|refine aT ?_|fail
 refine vcC.loop (X:=Nat×List (Int×Int)×Int) (fun x=>⟨[(4,.fn (.func 97) [] [.own 3 0]),(2,.own 2 0),(3,.own 3 0),(5,.d (.int .i64 x.2.2)),(13,.d (slS l)),(14,.d (.int .i64 l.length)),(15,.d (.int .i64 x.1))],[(2,.fix [.d (.sl true 0 0 fun _=>[]),.d (.sl true 0 0 fun _=>[])]),(3,.fix [.osl 1000,.osl 1001]),(1000,rowA x.2.1),(1001,rowV x.2.1)],[2,3,1000,1001]⟩)
  (fun x=>x.1≤l.length∧curG x.2.1 x.2.2 (l.drop x.1)=some P0∧x.2.1.length≤2*x.1) (fun x=>l.length-x.1) (0,[],1) ⟨Nat.zero_le _,hG,Nat.le_refl _⟩ ?_ ?_
 ·refine (Wk.row0F 3 0 1000 3 1 (fun _=>[]) rfl rfl (by simp)).trans ((Wk.row0F 3 1 1001 3 1 (fun _=>[]) rfl rfl (by simp)).trans (Wk.of _ hfn rfl ?_ ?_))
  ·simp only [slS,enb,vcd,↓vcp,seval]
  ·simp only [rowA,rowV,enb,vcd,↓vcp,seval]
   exact ⟨OLe.row rfl (fun i hi=>absurd hi (Nat.not_lt_zero i)),OLe.row rfl (fun i hi=>absurd hi (Nat.not_lt_zero i))⟩
 rintro ⟨k,P,e⟩ ⟨hk,he,hPl⟩
 simp only at hk he hPl
 by_cases hlt:k<l.length
 ·obtain ⟨s,hd,hg,-,-⟩:=drop_at hlt
  have hg:=hg default
  have d0:decide ((k:Int)<(l.length:Int))=true:=decide_eq_true (by omega)
  have w1:IntKind.i64.wrap ((k:Int)+1)=((k+1:Nat):Int):=wS (by omega)
  have b1:(0:Int)≤(k:Int)∧(k:Int)<(l.length:Int):=by omega
  have cf:=sFullSl s e
  simp only [vSl,cSl,slC] at cf
  rw [hd,curG] at he
  have hl1:=addP_len P s.sf s.yr
  have hl2:=addP_len (addP P s.sf s.yr) s.st 0
  by_cases hf:fullSl s e=true
  ·rw [if_pos hf] at he
   rw [hf] at cf
   simp only [slS,dSl,slC,rowA,rowV,d0,hg,vcd,↓vcp,seval]
   repeat' first|((first|refine tp hP (by exact cf) ?_|refine tg hP (fun _=>by exact cf) ?_|refine tv hP rfl (by exact cf) ?_);try simp only [d0,hg,w1,vcd,↓vcp,seval])|refine ⟨fun h=>?_,fun h=>?_⟩|refine aO ?_|refine aT ?_|fail
   by_cases hN:popC P s.sf∨pushC (popP P s.sf) s.sf s.yr
   ·have ac:=(sAddN P s.sf s.yr (by omega) hN).sw 903 3
    simp only [rowA,rowV,vcd,↓vcp,seval] at ac
    clear hN
    refine TR.callv [(3,.fix [.osl 1000,.osl 1001]),(1000,rowA P),(1001,rowV P)] [(3,.fix [.osl 1002,.osl 1003]),(1002,rowA (addP P s.sf s.yr)),(1003,rowV (addP P s.sf s.yr))] _ [1002,1003] rfl (by rw [hP];exact ac) trivial (by repeat' first|exact trivial|(intro _;assumption)|apply And.intro) (hin3 rfl rfl rfl) (by simp [keysO]) (by simp) ?_
    clear ac
    simp only [rowA,rowV,slC,w1,vcd,↓vcp,seval]
    repeat' first|refine ⟨fun h=>?_,fun h=>?_⟩|refine aO ?_|refine aT ?_|fail
    refine TR.wk ⟨[(4,.fn (.func 97) [] [.own 3 0]),(2,.own 2 0),(3,.own 3 0),(5,.d (.int .i64 e)),(7,.own 7 0),(13,.d (slS l)),(14,.d (.int .i64 l.length)),(15,.d (.int .i64 k)),(31,.fn (.func 97) [] [.own 3 0]),(34,.d (.int .i64 s.st))],[(2,.fix [.d (.sl true 0 0 fun _=>[]),.d (.sl true 0 0 fun _=>[])]),(3,.fix [.osl 1000,.osl 1001]),(7,.fix (cSl s)),(1000,rowA (addP P s.sf s.yr)),(1001,rowV (addP P s.sf s.yr))],[2,3,7,1000,1001]⟩ ((Wk.sw 1002 1000 _ hfn (by simp) (by simp)).trans ((Wk.sw 1003 1001 _ hfn (by simp) (by simp)).trans (Wk.of _ hfn rfl (by simp only [slS,dSl,slC,enb,vcd,↓vcp,seval]) (by simp only [rowA,rowV,cSl,slC,enb,vcd,↓vcp,seval])))) ?_
    simp only [rowA,rowV,cSl,slS,dSl,slC,vcd,↓vcp,seval]
    by_cases hN:popC (addP P s.sf s.yr) s.st∨pushC (popP (addP P s.sf s.yr) s.st) s.st 0
    ·have ac:=(sAddN (addP P s.sf s.yr) s.st 0 (by omega) hN).sw 903 3
     simp only [rowA,rowV,vcd,↓vcp,seval] at ac
     clear hN
     refine TR.callv [(3,.fix [.osl 1000,.osl 1001]),(1000,rowA (addP P s.sf s.yr)),(1001,rowV (addP P s.sf s.yr))] [(3,.fix [.osl 1002,.osl 1003]),(1002,rowA (addP (addP P s.sf s.yr) s.st 0)),(1003,rowV (addP (addP P s.sf s.yr) s.st 0))] _ [1002,1003] rfl (by rw [hP];exact ac) trivial (by repeat' first|exact trivial|(intro _;assumption)|apply And.intro) (hin3 rfl rfl rfl) (by simp [keysO]) (by simp) ?_
     clear ac
     simp only [rowA,rowV,slC,w1,vcd,↓vcp,seval]
     repeat' first|refine ⟨fun h=>?_,fun h=>?_⟩|refine aO ?_|refine aT ?_|fail
     exact lopK.on (k+1,addP (addP P s.sf s.yr) s.st 0,s.st) ⟨hlt,he,by simp only;omega⟩ (by simp only;omega) ((Wk.sw 1002 1000 _ hfn (by simp) (by simp)).trans ((Wk.sw 1003 1001 _ hfn (by simp) (by simp)).trans (Wk.of _ hfn rfl (by simp only [slS,dSl,slC,w1,enb,vcd,↓vcp,seval]) (by simp only [rowA,rowV,enb,vcd,↓vcp,seval]))))
    ·have ac:=(sAdd00 (addP P s.sf s.yr) s.st 0 (by omega) (fun h=>hN (.inl h)) (fun h=>hN (.inr h))).sw 903 3
     simp only [rowA,rowV,vcd,↓vcp,seval] at ac
     clear hN
     refine TR.callv [(3,.fix [.osl 1000,.osl 1001]),(1000,rowA (addP P s.sf s.yr)),(1001,rowV (addP P s.sf s.yr))] [(3,.fix [.osl 1000,.osl 1001]),(1000,rowA (addP (addP P s.sf s.yr) s.st 0)),(1001,rowV (addP (addP P s.sf s.yr) s.st 0))] _ [] rfl (by rw [hP];exact ac) trivial (by repeat' first|exact trivial|(intro _;assumption)|apply And.intro) (hin3 rfl rfl rfl) (by simp [keysO]) (by simp) ?_
     clear ac
     simp only [rowA,rowV,slC,w1,vcd,↓vcp,seval]
     repeat' first|refine ⟨fun h=>?_,fun h=>?_⟩|refine aO ?_|refine aT ?_|fail
     exact lopK.on (k+1,addP (addP P s.sf s.yr) s.st 0,s.st) ⟨hlt,he,by simp only;omega⟩ (by simp only;omega) (Wk.of _ hfn rfl (by simp only [slS,dSl,slC,w1,enb,vcd,↓vcp,seval]) (by simp only [rowA,rowV,enb,vcd,↓vcp,seval]))
   ·have ac:=(sAdd00 P s.sf s.yr (by omega) (fun h=>hN (.inl h)) (fun h=>hN (.inr h))).sw 903 3
    simp only [rowA,rowV,vcd,↓vcp,seval] at ac
    clear hN
    refine TR.callv [(3,.fix [.osl 1000,.osl 1001]),(1000,rowA P),(1001,rowV P)] [(3,.fix [.osl 1000,.osl 1001]),(1000,rowA (addP P s.sf s.yr)),(1001,rowV (addP P s.sf s.yr))] _ [] rfl (by rw [hP];exact ac) trivial (by repeat' first|exact trivial|(intro _;assumption)|apply And.intro) (hin3 rfl rfl rfl) (by simp [keysO]) (by simp) ?_
    clear ac
    simp only [rowA,rowV,slC,w1,vcd,↓vcp,seval]
    repeat' first|refine ⟨fun h=>?_,fun h=>?_⟩|refine aO ?_|refine aT ?_|fail
    refine TR.wk ⟨[(4,.fn (.func 97) [] [.own 3 0]),(2,.own 2 0),(3,.own 3 0),(5,.d (.int .i64 e)),(7,.own 7 0),(13,.d (slS l)),(14,.d (.int .i64 l.length)),(15,.d (.int .i64 k)),(31,.fn (.func 97) [] [.own 3 0]),(34,.d (.int .i64 s.st))],[(2,.fix [.d (.sl true 0 0 fun _=>[]),.d (.sl true 0 0 fun _=>[])]),(3,.fix [.osl 1000,.osl 1001]),(7,.fix (cSl s)),(1000,rowA (addP P s.sf s.yr)),(1001,rowV (addP P s.sf s.yr))],[2,3,7,1000,1001]⟩ (Wk.of _ hfn rfl (by simp only [slS,dSl,slC,enb,vcd,↓vcp,seval]) (by simp only [rowA,rowV,cSl,slC,enb,vcd,↓vcp,seval])) ?_
    simp only [rowA,rowV,cSl,slS,dSl,slC,vcd,↓vcp,seval]
    by_cases hN:popC (addP P s.sf s.yr) s.st∨pushC (popP (addP P s.sf s.yr) s.st) s.st 0
    ·have ac:=(sAddN (addP P s.sf s.yr) s.st 0 (by omega) hN).sw 903 3
     simp only [rowA,rowV,vcd,↓vcp,seval] at ac
     clear hN
     refine TR.callv [(3,.fix [.osl 1000,.osl 1001]),(1000,rowA (addP P s.sf s.yr)),(1001,rowV (addP P s.sf s.yr))] [(3,.fix [.osl 1002,.osl 1003]),(1002,rowA (addP (addP P s.sf s.yr) s.st 0)),(1003,rowV (addP (addP P s.sf s.yr) s.st 0))] _ [1002,1003] rfl (by rw [hP];exact ac) trivial (by repeat' first|exact trivial|(intro _;assumption)|apply And.intro) (hin3 rfl rfl rfl) (by simp [keysO]) (by simp) ?_
     clear ac
     simp only [rowA,rowV,slC,w1,vcd,↓vcp,seval]
     repeat' first|refine ⟨fun h=>?_,fun h=>?_⟩|refine aO ?_|refine aT ?_|fail
     exact lopK.on (k+1,addP (addP P s.sf s.yr) s.st 0,s.st) ⟨hlt,he,by simp only;omega⟩ (by simp only;omega) ((Wk.sw 1002 1000 _ hfn (by simp) (by simp)).trans ((Wk.sw 1003 1001 _ hfn (by simp) (by simp)).trans (Wk.of _ hfn rfl (by simp only [slS,dSl,slC,w1,enb,vcd,↓vcp,seval]) (by simp only [rowA,rowV,enb,vcd,↓vcp,seval]))))
    ·have ac:=(sAdd00 (addP P s.sf s.yr) s.st 0 (by omega) (fun h=>hN (.inl h)) (fun h=>hN (.inr h))).sw 903 3
     simp only [rowA,rowV,vcd,↓vcp,seval] at ac
     clear hN
     refine TR.callv [(3,.fix [.osl 1000,.osl 1001]),(1000,rowA (addP P s.sf s.yr)),(1001,rowV (addP P s.sf s.yr))] [(3,.fix [.osl 1000,.osl 1001]),(1000,rowA (addP (addP P s.sf s.yr) s.st 0)),(1001,rowV (addP (addP P s.sf s.yr) s.st 0))] _ [] rfl (by rw [hP];exact ac) trivial (by repeat' first|exact trivial|(intro _;assumption)|apply And.intro) (hin3 rfl rfl rfl) (by simp [keysO]) (by simp) ?_
     clear ac
     simp only [rowA,rowV,slC,w1,vcd,↓vcp,seval]
     repeat' first|refine ⟨fun h=>?_,fun h=>?_⟩|refine aO ?_|refine aT ?_|fail
     exact lopK.on (k+1,addP (addP P s.sf s.yr) s.st 0,s.st) ⟨hlt,he,by simp only;omega⟩ (by simp only;omega) (Wk.of _ hfn rfl (by simp only [slS,dSl,slC,w1,enb,vcd,↓vcp,seval]) (by simp only [rowA,rowV,enb,vcd,↓vcp,seval]))
  ·rw [if_neg hf] at he;cases he
 ·have d0:decide ((k:Int)<(l.length:Int))=false:=decide_eq_false (by omega)
  rw [List.drop_eq_nil_of_le (by omega),curG] at he
  injection he with he
  subst he
  simp only [slS,rowA,rowV,d0,vcd,↓vcp,seval]
  repeat' first|refine ⟨fun h=>?_,fun h=>?_⟩|refine aO ?_|refine aT ?_|fail
  refine RetK.mk _ ((Wk.pub 1000 rfl).trans (Wk.pub 1001 rfl)) (by simp only [rs55,rsb,vcd,↓vcp,seval]) ?_ trivial
  simp only [rs55,vSt,cSt,rsb,vcd,↓vcp,seval]
  exact VLe.ags ⟨vle_slK1,vle_slK2,trivial⟩
set_option maxHeartbeats 4000000 in
theorem sCurveP (l:List Sl) (h:curS l=none) (hl:l.length≤9223372036854775807):CtrP Tryz.prog 55 [.d (slS l)] (vErr 1):=by
 by_cases hlen:l.length>2000
 ·have dl:decide ((l.length:Int)>2000)=true:=decide_eq_true (by omega)
  refine ctr_panics Tryz.func55 ok55 rfl cc55 Tryz.ntmps55 (by simp) rfl rfl ?_;intro c hP hfn hpk;simp only [kc55,slS,dl,vcd,↓vcp,seval]
  repeat' first|refine ⟨fun h=>?_,fun h=>?_⟩|refine aO ?_|refine aT ?_|fail
  exact TR.cpan hP (sMust1 1 (by decide)) (by repeat' first|exact trivial|(intro _;assumption)|apply And.intro) (by rw [hpk];exact VLe.refl _)
 have hG:curG [] 1 l=none:=by rw [curS,if_neg (by omega)] at h;exact h
 have dl:decide ((l.length:Int)>2000)=false:=decide_eq_false (by omega)
 refine ctr_panics Tryz.func55 ok55 rfl cc55 Tryz.ntmps55 (by simp) rfl rfl ?_;intro c hP hfn hpk;simp only [kc55,slS,dl,vcd,↓vcp,seval]
 repeat' first|refine ⟨fun h=>?_,fun h=>?_⟩|refine aO ?_|refine aT ?_|fail
 refine vcC.loop (X:=Nat×List (Int×Int)×Int) (fun x=>⟨[(4,.fn (.func 97) [] [.own 3 0]),(2,.own 2 0),(3,.own 3 0),(5,.d (.int .i64 x.2.2)),(13,.d (slS l)),(14,.d (.int .i64 l.length)),(15,.d (.int .i64 x.1))],[(2,.fix [.d (.sl true 0 0 fun _=>[]),.d (.sl true 0 0 fun _=>[])]),(3,.fix [.osl 1000,.osl 1001]),(1000,rowA x.2.1),(1001,rowV x.2.1)],[2,3,1000,1001]⟩)
  (fun x=>x.1≤l.length∧curG x.2.1 x.2.2 (l.drop x.1)=none∧x.2.1.length≤2*x.1) (fun x=>l.length-x.1) (0,[],1) ⟨Nat.zero_le _,hG,Nat.le_refl _⟩ ?_ ?_
 ·refine (Wk.row0F 3 0 1000 3 1 (fun _=>[]) rfl rfl (by simp)).trans ((Wk.row0F 3 1 1001 3 1 (fun _=>[]) rfl rfl (by simp)).trans (Wk.of _ hfn rfl ?_ ?_))
  ·simp only [slS,enb,vcd,↓vcp,seval]
  ·simp only [rowA,rowV,enb,vcd,↓vcp,seval]
   exact ⟨OLe.row rfl (fun i hi=>absurd hi (Nat.not_lt_zero i)),OLe.row rfl (fun i hi=>absurd hi (Nat.not_lt_zero i))⟩
 rintro ⟨k,P,e⟩ ⟨hk,he,hPl⟩
 simp only at hk he hPl
 by_cases hlt:k<l.length
 ·obtain ⟨s,hd,hg,-,-⟩:=drop_at hlt
  have hg:=hg default
  have d0:decide ((k:Int)<(l.length:Int))=true:=decide_eq_true (by omega)
  have w1:IntKind.i64.wrap ((k:Int)+1)=((k+1:Nat):Int):=wS (by omega)
  have b1:(0:Int)≤(k:Int)∧(k:Int)<(l.length:Int):=by omega
  have cf:=sFullSl s e
  simp only [vSl,cSl,slC] at cf
  rw [hd,curG] at he
  have hl1:=addP_len P s.sf s.yr
  have hl2:=addP_len (addP P s.sf s.yr) s.st 0
  by_cases hf:fullSl s e=true
  ·rw [if_pos hf] at he
   rw [hf] at cf
   simp only [slS,dSl,slC,rowA,rowV,d0,hg,vcd,↓vcp,seval]
   repeat' first|((first|refine tp hP (by exact cf) ?_|refine tg hP (fun _=>by exact cf) ?_|refine tv hP rfl (by exact cf) ?_);try simp only [d0,hg,w1,vcd,↓vcp,seval])|refine ⟨fun h=>?_,fun h=>?_⟩|refine aO ?_|refine aT ?_|fail
   by_cases hN:popC P s.sf∨pushC (popP P s.sf) s.sf s.yr
   ·have ac:=(sAddN P s.sf s.yr (by omega) hN).sw 903 3
    simp only [rowA,rowV,vcd,↓vcp,seval] at ac
    clear hN
    refine TR.callv [(3,.fix [.osl 1000,.osl 1001]),(1000,rowA P),(1001,rowV P)] [(3,.fix [.osl 1002,.osl 1003]),(1002,rowA (addP P s.sf s.yr)),(1003,rowV (addP P s.sf s.yr))] _ [1002,1003] rfl (by rw [hP];exact ac) trivial (by repeat' first|exact trivial|(intro _;assumption)|apply And.intro) (hin3 rfl rfl rfl) (by simp [keysO]) (by simp) ?_
    clear ac
    simp only [rowA,rowV,slC,w1,vcd,↓vcp,seval]
    repeat' first|refine ⟨fun h=>?_,fun h=>?_⟩|refine aO ?_|refine aT ?_|fail
    refine TR.wk ⟨[(4,.fn (.func 97) [] [.own 3 0]),(2,.own 2 0),(3,.own 3 0),(5,.d (.int .i64 e)),(7,.own 7 0),(13,.d (slS l)),(14,.d (.int .i64 l.length)),(15,.d (.int .i64 k)),(31,.fn (.func 97) [] [.own 3 0]),(34,.d (.int .i64 s.st))],[(2,.fix [.d (.sl true 0 0 fun _=>[]),.d (.sl true 0 0 fun _=>[])]),(3,.fix [.osl 1000,.osl 1001]),(7,.fix (cSl s)),(1000,rowA (addP P s.sf s.yr)),(1001,rowV (addP P s.sf s.yr))],[2,3,7,1000,1001]⟩ ((Wk.sw 1002 1000 _ hfn (by simp) (by simp)).trans ((Wk.sw 1003 1001 _ hfn (by simp) (by simp)).trans (Wk.of _ hfn rfl (by simp only [slS,dSl,slC,enb,vcd,↓vcp,seval]) (by simp only [rowA,rowV,cSl,slC,enb,vcd,↓vcp,seval])))) ?_
    simp only [rowA,rowV,cSl,slS,dSl,slC,vcd,↓vcp,seval]
    by_cases hN:popC (addP P s.sf s.yr) s.st∨pushC (popP (addP P s.sf s.yr) s.st) s.st 0
    ·have ac:=(sAddN (addP P s.sf s.yr) s.st 0 (by omega) hN).sw 903 3
     simp only [rowA,rowV,vcd,↓vcp,seval] at ac
     clear hN
     refine TR.callv [(3,.fix [.osl 1000,.osl 1001]),(1000,rowA (addP P s.sf s.yr)),(1001,rowV (addP P s.sf s.yr))] [(3,.fix [.osl 1002,.osl 1003]),(1002,rowA (addP (addP P s.sf s.yr) s.st 0)),(1003,rowV (addP (addP P s.sf s.yr) s.st 0))] _ [1002,1003] rfl (by rw [hP];exact ac) trivial (by repeat' first|exact trivial|(intro _;assumption)|apply And.intro) (hin3 rfl rfl rfl) (by simp [keysO]) (by simp) ?_
     clear ac
     simp only [rowA,rowV,slC,w1,vcd,↓vcp,seval]
     repeat' first|refine ⟨fun h=>?_,fun h=>?_⟩|refine aO ?_|refine aT ?_|fail
     exact lopK.on (k+1,addP (addP P s.sf s.yr) s.st 0,s.st) ⟨hlt,he,by simp only;omega⟩ (by simp only;omega) ((Wk.sw 1002 1000 _ hfn (by simp) (by simp)).trans ((Wk.sw 1003 1001 _ hfn (by simp) (by simp)).trans (Wk.of _ hfn rfl (by simp only [slS,dSl,slC,w1,enb,vcd,↓vcp,seval]) (by simp only [rowA,rowV,enb,vcd,↓vcp,seval]))))
    ·have ac:=(sAdd00 (addP P s.sf s.yr) s.st 0 (by omega) (fun h=>hN (.inl h)) (fun h=>hN (.inr h))).sw 903 3
     simp only [rowA,rowV,vcd,↓vcp,seval] at ac
     clear hN
     refine TR.callv [(3,.fix [.osl 1000,.osl 1001]),(1000,rowA (addP P s.sf s.yr)),(1001,rowV (addP P s.sf s.yr))] [(3,.fix [.osl 1000,.osl 1001]),(1000,rowA (addP (addP P s.sf s.yr) s.st 0)),(1001,rowV (addP (addP P s.sf s.yr) s.st 0))] _ [] rfl (by rw [hP];exact ac) trivial (by repeat' first|exact trivial|(intro _;assumption)|apply And.intro) (hin3 rfl rfl rfl) (by simp [keysO]) (by simp) ?_
     clear ac
     simp only [rowA,rowV,slC,w1,vcd,↓vcp,seval]
     repeat' first|refine ⟨fun h=>?_,fun h=>?_⟩|refine aO ?_|refine aT ?_|fail
     exact lopK.on (k+1,addP (addP P s.sf s.yr) s.st 0,s.st) ⟨hlt,he,by simp only;omega⟩ (by simp only;omega) (Wk.of _ hfn rfl (by simp only [slS,dSl,slC,w1,enb,vcd,↓vcp,seval]) (by simp only [rowA,rowV,enb,vcd,↓vcp,seval]))
   ·have ac:=(sAdd00 P s.sf s.yr (by omega) (fun h=>hN (.inl h)) (fun h=>hN (.inr h))).sw 903 3
    simp only [rowA,rowV,vcd,↓vcp,seval] at ac
    clear hN
    refine TR.callv [(3,.fix [.osl 1000,.osl 1001]),(1000,rowA P),(1001,rowV P)] [(3,.fix [.osl 1000,.osl 1001]),(1000,rowA (addP P s.sf s.yr)),(1001,rowV (addP P s.sf s.yr))] _ [] rfl (by rw [hP];exact ac) trivial (by repeat' first|exact trivial|(intro _;assumption)|apply And.intro) (hin3 rfl rfl rfl) (by simp [keysO]) (by simp) ?_
    clear ac
    simp only [rowA,rowV,slC,w1,vcd,↓vcp,seval]
    repeat' first|refine ⟨fun h=>?_,fun h=>?_⟩|refine aO ?_|refine aT ?_|fail
    refine TR.wk ⟨[(4,.fn (.func 97) [] [.own 3 0]),(2,.own 2 0),(3,.own 3 0),(5,.d (.int .i64 e)),(7,.own 7 0),(13,.d (slS l)),(14,.d (.int .i64 l.length)),(15,.d (.int .i64 k)),(31,.fn (.func 97) [] [.own 3 0]),(34,.d (.int .i64 s.st))],[(2,.fix [.d (.sl true 0 0 fun _=>[]),.d (.sl true 0 0 fun _=>[])]),(3,.fix [.osl 1000,.osl 1001]),(7,.fix (cSl s)),(1000,rowA (addP P s.sf s.yr)),(1001,rowV (addP P s.sf s.yr))],[2,3,7,1000,1001]⟩ (Wk.of _ hfn rfl (by simp only [slS,dSl,slC,enb,vcd,↓vcp,seval]) (by simp only [rowA,rowV,cSl,slC,enb,vcd,↓vcp,seval])) ?_
    simp only [rowA,rowV,cSl,slS,dSl,slC,vcd,↓vcp,seval]
    by_cases hN:popC (addP P s.sf s.yr) s.st∨pushC (popP (addP P s.sf s.yr) s.st) s.st 0
    ·have ac:=(sAddN (addP P s.sf s.yr) s.st 0 (by omega) hN).sw 903 3
     simp only [rowA,rowV,vcd,↓vcp,seval] at ac
     clear hN
     refine TR.callv [(3,.fix [.osl 1000,.osl 1001]),(1000,rowA (addP P s.sf s.yr)),(1001,rowV (addP P s.sf s.yr))] [(3,.fix [.osl 1002,.osl 1003]),(1002,rowA (addP (addP P s.sf s.yr) s.st 0)),(1003,rowV (addP (addP P s.sf s.yr) s.st 0))] _ [1002,1003] rfl (by rw [hP];exact ac) trivial (by repeat' first|exact trivial|(intro _;assumption)|apply And.intro) (hin3 rfl rfl rfl) (by simp [keysO]) (by simp) ?_
     clear ac
     simp only [rowA,rowV,slC,w1,vcd,↓vcp,seval]
     repeat' first|refine ⟨fun h=>?_,fun h=>?_⟩|refine aO ?_|refine aT ?_|fail
     exact lopK.on (k+1,addP (addP P s.sf s.yr) s.st 0,s.st) ⟨hlt,he,by simp only;omega⟩ (by simp only;omega) ((Wk.sw 1002 1000 _ hfn (by simp) (by simp)).trans ((Wk.sw 1003 1001 _ hfn (by simp) (by simp)).trans (Wk.of _ hfn rfl (by simp only [slS,dSl,slC,w1,enb,vcd,↓vcp,seval]) (by simp only [rowA,rowV,enb,vcd,↓vcp,seval]))))
    ·have ac:=(sAdd00 (addP P s.sf s.yr) s.st 0 (by omega) (fun h=>hN (.inl h)) (fun h=>hN (.inr h))).sw 903 3
     simp only [rowA,rowV,vcd,↓vcp,seval] at ac
     clear hN
     refine TR.callv [(3,.fix [.osl 1000,.osl 1001]),(1000,rowA (addP P s.sf s.yr)),(1001,rowV (addP P s.sf s.yr))] [(3,.fix [.osl 1000,.osl 1001]),(1000,rowA (addP (addP P s.sf s.yr) s.st 0)),(1001,rowV (addP (addP P s.sf s.yr) s.st 0))] _ [] rfl (by rw [hP];exact ac) trivial (by repeat' first|exact trivial|(intro _;assumption)|apply And.intro) (hin3 rfl rfl rfl) (by simp [keysO]) (by simp) ?_
     clear ac
     simp only [rowA,rowV,slC,w1,vcd,↓vcp,seval]
     repeat' first|refine ⟨fun h=>?_,fun h=>?_⟩|refine aO ?_|refine aT ?_|fail
     exact lopK.on (k+1,addP (addP P s.sf s.yr) s.st 0,s.st) ⟨hlt,he,by simp only;omega⟩ (by simp only;omega) (Wk.of _ hfn rfl (by simp only [slS,dSl,slC,w1,enb,vcd,↓vcp,seval]) (by simp only [rowA,rowV,enb,vcd,↓vcp,seval]))
  ·have hf:fullSl s e=false:=by simpa using hf
   rw [hf] at cf
   simp only [slS,dSl,slC,rowA,rowV,d0,hg,vcd,↓vcp,seval]
   repeat' first|((first|refine tp hP (by exact cf) ?_|refine tg hP (fun _=>by exact cf) ?_|refine tv hP rfl (by exact cf) ?_);try simp only [d0,hg,w1,vcd,↓vcp,seval])|refine ⟨fun h=>?_,fun h=>?_⟩|refine aO ?_|refine aT ?_|fail
   exact TR.cpan hP (sMust1 1 (by decide)) (by repeat' first|exact trivial|(intro _;assumption)|apply And.intro) (by rw [hpk];exact VLe.refl _)
 ·rw [List.drop_eq_nil_of_le (by omega),curG] at he
  cases he
end Go.Proofs.YtanppabbmffokaaGreat
end
section
namespace Go.Proofs.YtanppabbmffokaaGreat
open Go.Bx
set_option maxRecDepth 10000
theorem dSum_le {g g':Int→Int}:∀ (n:Nat) (a:Int),(∀ d,g d≤g' d)→dSum g a n≤dSum g' a n
 |0,a,_=>Int.le_refl _
 |n+1,a,h=>by
  have h1:=h a
  have h2:=dSum_le n (a+1) h
  rw [dSum,dSum];omega
theorem sumS_le (P:List (Int×Int)) (a b:Int):(sumS P a b).1≤4000000000000000000:=by
 rw [sumS_eq]
 split
 ·split
  ·simp
  ·rename_i h
   have:=dSum_le (g:=valS P) (g':=fun d=>max (valS P d) (-(valS P d))) (b-a).toNat a (fun d=>by omega)
   simp only;omega
 ·simp
def toD (day:Int):Int:=min (max day 1) 292195
def uptoR (P:List (Int×Int)) (day:Int):Int×Int:=
 if toD day=1 then (0,0) else if (sumS P 1 (toD day)).2≠0 then (0,(sumS P 1 (toD day)).2) else ofR upE (sumS P 1 (toD day)).1 1 365
theorem ofR_err {up:Nat→Nat→Nat→Bool} {a b c:Int} (h:(ofR up a b c).2≠0):(ofR up a b c).1=0:=by
 revert h
 unfold ofR
 repeat' split
 all_goals simp
theorem uptoR_err {P:List (Int×Int)} {day:Int} (h:(uptoR P day).2≠0):(uptoR P day).1=0:=by
 unfold uptoR at h ⊢
 split at h
 ·simp at h
 ·split at h
  ·rename_i h1 h2;rw [if_neg h1,if_pos h2]
  ·rename_i h1 h2;rw [if_neg h1,if_neg h2];exact ofR_err h
theorem sUptoR (P:List (Int×Int)) (day:Int) (hl:P.length≤1000000) (h:(uptoR P day).2=0):Ctr Tryz.prog 54 [vSt P,.d (.int .i64 day)] [] (.d (.int .i64 (uptoR P day).1)) [] []:=by
 have cs:=sSumS P 1 (toD day) hl
 have ce:=sEven (sumS P 1 (toD day)).1 1 365 (by have:=sumS_le P 1 (toD day);omega) (by omega) (by omega)
 simp only [vSt,cSt,slK,List.length_map,vS] at cs
 by_cases h1:toD day=1
 ·have d0:(min (max day 1) 292195 == 1)=true:=beq_iff_eq.2 h1
  have e:uptoR P day=(0,0):=by rw [uptoR,if_pos h1]
  rw [e]
  refine ctr_pure Tryz.func54 ok54 rfl cc54 cr54 Tryz.ntmps54 (by simp) rfl rfl ?_;intro c hP hfn;simp only [kc54,vSt,cSt,slK,List.length_map,d0,vcd,↓vcp,seval]
  repeat' first|refine ⟨fun h=>?_,fun h=>?_⟩|refine aO ?_|refine aT ?_|fail
  exact RetK.pure (by simp only [rs54,rsb,vcd,↓vcp,seval]) (by (simp only [rs54,rsb,enb,vcd,↓vcp,seval])<;>(first|rfl))
 ·have d0:(min (max day 1) 292195 == 1)=false:=beq_false_of_ne h1
  have n0:((0:Int) != 0)=false:=rfl
  by_cases h2:(sumS P 1 (toD day)).2=0
  ·have e:uptoR P day=ofR upE (sumS P 1 (toD day)).1 1 365:=by rw [uptoR,if_neg h1,if_neg (by simpa using h2)]
   rw [e] at h ⊢
   rw [h2] at cs
   rw [h] at ce
   simp only [toD] at cs ce ⊢
   refine ctr_pure Tryz.func54 ok54 rfl cc54 cr54 Tryz.ntmps54 (by simp) rfl rfl ?_;intro c hP hfn;simp only [kc54,vSt,cSt,slK,List.length_map,d0,vcd,↓vcp,seval]
   repeat' first|((first|refine tp hP (by first|exact cs|exact ce|exact sMust0) ?_|refine tg hP (fun _=>by first|exact cs|exact ce|exact sMust0) ?_|refine tv hP rfl (by first|exact cs|exact ce|exact sMust0) ?_);try simp only [d0,vcd,↓vcp,seval])|refine ⟨fun h=>?_,fun h=>?_⟩|refine aO ?_|refine aT ?_|fail
   exact RetK.pure (by simp only [rs54,rsb,vcd,↓vcp,seval]) (by (simp only [rs54,rsb,enb,vcd,↓vcp,seval])<;>(first|exact VLe.refl _))
  ·have e:uptoR P day=(0,(sumS P 1 (toD day)).2):=by rw [uptoR,if_neg h1,if_pos h2]
   rw [e] at h
   exact absurd h h2
theorem sUptoP (P:List (Int×Int)) (day:Int) (hl:P.length≤1000000) (h:(uptoR P day).2≠0):CtrP Tryz.prog 54 [vSt P,.d (.int .i64 day)] (vErr (uptoR P day).2):=by
 have cs:=sSumS P 1 (toD day) hl
 have ce:=sEven (sumS P 1 (toD day)).1 1 365 (by have:=sumS_le P 1 (toD day);omega) (by omega) (by omega)
 simp only [vSt,cSt,slK,List.length_map,vS] at cs
 by_cases h1:toD day=1
 ·have e:uptoR P day=(0,0):=by rw [uptoR,if_pos h1]
  rw [e] at h
  exact absurd rfl h
 ·have d0:(min (max day 1) 292195 == 1)=false:=beq_false_of_ne h1
  by_cases h2:(sumS P 1 (toD day)).2=0
  ·have e:uptoR P day=ofR upE (sumS P 1 (toD day)).1 1 365:=by rw [uptoR,if_neg h1,if_neg (by simpa using h2)]
   rw [e] at h ⊢
   rw [h2] at cs
   simp only [toD] at cs ce h ⊢
   refine ctr_panics Tryz.func54 ok54 rfl cc54 Tryz.ntmps54 (by simp) rfl rfl ?_;intro c hP hfn hpk;simp only [kc54,vSt,cSt,slK,List.length_map,d0,vcd,↓vcp,seval]
   repeat' first|((first|refine tp hP (by first|exact cs|exact ce|exact sMust0) ?_|refine tg hP (fun _=>by first|exact cs|exact ce|exact sMust0) ?_|refine tv hP rfl (by first|exact cs|exact ce|exact sMust0) ?_);try simp only [d0,vcd,↓vcp,seval])|refine ⟨fun h=>?_,fun h=>?_⟩|refine aO ?_|refine aT ?_|fail
   exact TR.cpan hP (sMust1 _ h) (by repeat' first|exact trivial|(intro _;assumption)|apply And.intro) (by rw [hpk];exact VLe.refl _)
  ·have e:uptoR P day=(0,(sumS P 1 (toD day)).2):=by rw [uptoR,if_neg h1,if_pos h2]
   rw [e]
   simp only [toD] at cs h2 ⊢
   refine ctr_panics Tryz.func54 ok54 rfl cc54 Tryz.ntmps54 (by simp) rfl rfl ?_;intro c hP hfn hpk;simp only [kc54,vSt,cSt,slK,List.length_map,d0,vcd,↓vcp,seval]
   repeat' first|((first|refine tp hP (by exact cs) ?_|refine tg hP (fun _=>by exact cs) ?_|refine tv hP rfl (by exact cs) ?_);try simp only [d0,vcd,↓vcp,seval])|refine ⟨fun h=>?_,fun h=>?_⟩|refine aO ?_|refine aT ?_|fail
   exact TR.cpan hP (sMust1 _ h2) (by repeat' first|exact trivial|(intro _;assumption)|apply And.intro) (by rw [hpk];exact VLe.refl _)
theorem curS_len {l:List Sl} {P:List (Int×Int)} (h:curS l=some P):P.length≤10000:=by
 have:∀ (l:List Sl) (P Q:List (Int×Int)) (e:Int),curG P e l=some Q→Q.length≤P.length+2*l.length:=by
  intro l
  induction l with
  |nil=>intro P Q e h;simp only [curG,Option.some.injEq] at h;subst h;simp
  |cons s l ih =>
   intro P Q e h
   rw [curG] at h
   split at h
   ·have h1:=ih _ _ _ h
    have h2:=addP_len (addP P s.sf s.yr) s.st 0
    have h3:=addP_len P s.sf s.yr
    rw [List.length_cons];omega
   ·cases h
 have h1:=(curS_ok h).2.1
 rw [curS,if_neg (by omega)] at h
 have:=this _ _ _ _ h
 simp only [List.length_nil] at this
 omega
def uptoF (l:List Sl) (day:Int):Int×Int:=match curS l with|none=>(0,1)|some P=>uptoR P day
theorem sUptoF (l:List Sl) (day:Int) (hl:l.length≤9223372036854775807):Ctr Tryz.prog 21 [.d (slS l),.d (.int .i64 day)] [] (.tup [.d (.int .i64 (uptoF l day).1),.d (.int .i64 (uptoF l day).2)]) [] []:=by
 cases hc:curS l with
 |none =>
  have e:uptoF l day=(0,1):=by rw [uptoF,hc]
  have cp:=sCurveP l hc hl
  simp only [slS,dSl,slC] at cp
  rw [e]
  refine ctr_defer 53 [5] Tryz.func21 ok21 rfl cd21 cr21 Tryz.ntmps21 (by simp) rfl rfl ?_;intro c hP hfn;simp only [kd21,slS,dSl,slC,vcd,↓vcp,seval]
  rw [layK_nrm]
  simp only [vcd,↓vcp,seval]
  refine ⟨⟨_,_,rfl,trivial,by simp only [vcd,↓vcp,seval],rfl⟩,by simp [keysO],fun c2 hP2 hfn2 hrd2 hpk2=>?_⟩
  refine vcS.of ?_
  simp only [vcd,↓vcp,seval]
  refine TR.cpan (hP2.trans hP) cp (by repeat' first|exact trivial|(intro _;assumption)|apply And.intro) ?_
  rw [hpk2]
  refine ⟨[(5,.fix [.d (.int .i64 0)])],[(5,.fix [.d (.int .i64 1)])],by rw [hP];exact dTold1 5 0 1,fun k o hm=>mem_own? (by simp [keysO]) hm,?_,?_⟩
  ·first|(simp only [rs21,rsb,vcd,↓vcp,seval];done)|trivial
  ·simp only [rs21,rsb,enb,vcd,↓vcp,seval]
 |some P =>
  have hPl:=curS_len hc
  have cc:=sCurve l P hc
  simp only [slS,dSl,slC] at cc
  have e:uptoF l day=uptoR P day:=by rw [uptoF,hc]
  rw [e]
  by_cases h:(uptoR P day).2=0
  ·have cu:=sUptoR P day (by omega) h
   rw [h]
   refine ctr_defer 53 [5] Tryz.func21 ok21 rfl cd21 cr21 Tryz.ntmps21 (by simp) rfl rfl ?_;intro c hP hfn;simp only [kd21,slS,dSl,slC,vcd,↓vcp,seval]
   rw [layK_nrm]
   simp only [vcd,↓vcp,seval]
   refine ⟨⟨_,_,rfl,trivial,by simp only [vcd,↓vcp,seval],rfl⟩,by simp [keysO],fun c2 hP2 hfn2 hrd2 hpk2=>?_⟩
   refine vcS.of ?_
   have hP:=hP2.trans hP
   simp only [vcd,↓vcp,seval]
   repeat' first|((first|refine tp hP (by first|exact cc|exact cu) ?_|refine tg hP (fun _=>by first|exact cc|exact cu) ?_|refine tv hP rfl (by first|exact cc|exact cu) ?_);try simp only [vcd,↓vcp,seval])|refine ⟨fun h=>?_,fun h=>?_⟩|refine aO ?_|refine aT ?_|fail
   refine ⟨_,[(5,.fix [.d (.int .i64 0)])],[(5,.fix [.d (.int .i64 0)])],Wk.refl _ _,by rw [hP];exact dTold0 5 0,fun k o hm=>mem_own? (by simp [keysO]) hm,?_,?_⟩
   ·first|(simp only [rs21,rsb,vcd,↓vcp,seval];done)|trivial
   ·simp only [rs21,rsb,enb,vcd,↓vcp,seval]
  ·have cu:=sUptoP P day (by omega) h
   have e0:=uptoR_err h
   rw [e0]
   refine ctr_defer 53 [5] Tryz.func21 ok21 rfl cd21 cr21 Tryz.ntmps21 (by simp) rfl rfl ?_;intro c hP hfn;simp only [kd21,slS,dSl,slC,vcd,↓vcp,seval]
   rw [layK_nrm]
   simp only [vcd,↓vcp,seval]
   refine ⟨⟨_,_,rfl,trivial,by simp only [vcd,↓vcp,seval],rfl⟩,by simp [keysO],fun c2 hP2 hfn2 hrd2 hpk2=>?_⟩
   refine vcS.of ?_
   have hP:=hP2.trans hP
   simp only [vcd,↓vcp,seval]
   repeat' first|((first|refine tp hP (by exact cc) ?_|refine tg hP (fun _=>by exact cc) ?_|refine tv hP rfl (by exact cc) ?_);try simp only [vcd,↓vcp,seval])|refine ⟨fun h=>?_,fun h=>?_⟩|refine aO ?_|refine aT ?_|fail
   refine TR.cpan hP cu (by repeat' first|exact trivial|(intro _;assumption)|apply And.intro) ?_
   rw [hpk2]
   refine ⟨[(5,.fix [.d (.int .i64 0)])],[(5,.fix [.d (.int .i64 (uptoR P day).2)])],by rw [←hP2,hP];exact dTold1 5 0 _,fun k o hm=>mem_own? (by simp [keysO]) hm,?_,?_⟩
   ·first|(simp only [rs21,rsb,vcd,↓vcp,seval];done)|trivial
   ·simp only [rs21,rsb,enb,vcd,↓vcp,seval]
end Go.Proofs.YtanppabbmffokaaGreat
end
section
namespace Go.Proofs.YtanppabbmffokaaGreat
open Go.Bx
set_option maxRecDepth 10000
def curF (l:List Sl):List (Int×Int)×Int:=match curS l with|none=>([],1)|some P=>(P,0)
theorem sCurveF (l:List Sl) (hl:l.length≤9223372036854775807):Ctr Tryz.prog 26 [.d (slS l)] [] (.tup [vSt (curF l).1,.d (.int .i64 (curF l).2)]) [] []:=by
 cases hc:curS l with
 |none =>
  have e:curF l=([],1):=by rw [curF,hc]
  have cp:=sCurveP l hc hl
  simp only [slS,dSl,slC] at cp
  rw [e]
  refine ctr_defer 53 [3] Tryz.func26 ok26 rfl cd26 cr26 Tryz.ntmps26 (by simp) rfl rfl ?_;intro c hP hfn;simp only [kd26,slS,dSl,slC,vcd,↓vcp,seval]
  rw [layK_nrm]
  simp only [vcd,↓vcp,seval]
  refine ⟨⟨_,_,rfl,trivial,by simp only [vcd,↓vcp,seval],rfl⟩,by simp [keysO],fun c2 hP2 hfn2 hrd2 hpk2=>?_⟩
  refine vcS.of ?_
  simp only [vcd,↓vcp,seval]
  refine TR.cpan (hP2.trans hP) cp (by repeat' first|exact trivial|(intro _;assumption)|apply And.intro) ?_
  rw [hpk2]
  refine ⟨[(3,.fix [.d (.int .i64 0)])],[(3,.fix [.d (.int .i64 1)])],by rw [hP];exact dTold1 3 0 1,fun k o hm=>mem_own? (by simp [keysO]) (List.mem_cons_of_mem _ hm),?_,?_⟩
  ·first|(simp only [rs26,rsb,vcd,↓vcp,seval];done)|trivial
  ·simp only [rs26,rsb,enb,vcd,↓vcp,seval]
   exact VLe.tups ⟨VLe.ags ⟨VLe.nil rfl (fun h=>by cases h),VLe.nil rfl (fun h=>by cases h),trivial⟩,VLe.refl _,trivial⟩
 |some P =>
  have cc:=sCurve l P hc
  simp only [slS,dSl,slC,vSt,cSt,slK,List.length_map] at cc
  have e:curF l=(P,0):=by rw [curF,hc]
  rw [e]
  refine ctr_defer 53 [3] Tryz.func26 ok26 rfl cd26 cr26 Tryz.ntmps26 (by simp) rfl rfl ?_;intro c hP hfn;simp only [kd26,slS,dSl,slC,vcd,↓vcp,seval]
  rw [layK_nrm]
  simp only [vcd,↓vcp,seval]
  refine ⟨⟨_,_,rfl,trivial,by simp only [vcd,↓vcp,seval],rfl⟩,by simp [keysO],fun c2 hP2 hfn2 hrd2 hpk2=>?_⟩
  refine vcS.of ?_
  have hP:=hP2.trans hP
  simp only [vcd,↓vcp,seval]
  repeat' first|((first|refine tp hP (by exact cc) ?_|refine tg hP (fun _=>by exact cc) ?_|refine tv hP rfl (by exact cc) ?_);try simp only [vcd,↓vcp,seval])|refine ⟨fun h=>?_,fun h=>?_⟩|refine aO ?_|refine aT ?_|fail
  refine ⟨_,[(3,.fix [.d (.int .i64 0)])],[(3,.fix [.d (.int .i64 0)])],Wk.refl _ _,by rw [hP];exact dTold0 3 0,fun k o hm=>mem_own? (by simp [keysO]) (List.mem_cons_of_mem _ hm),?_,?_⟩
  ·first|(simp only [rs26,rsb,vcd,↓vcp,seval];done)|trivial
  ·simp only [rs26,vSt,cSt,slK,List.length_map,rsb,enb,vcd,↓vcp,seval]
theorem sWritten (l:List Sl) (hl:l.length≤9223372036854775807):Ctr Tryz.prog 25 [.d (slS l)] [] (.tup [.d (.int .i64 (uptoF l 292195).1),.d (.int .i64 (uptoF l 292195).2)]) [] []:=by
 have cu:=sUptoF l 292195 hl
 simp only [slS,dSl,slC] at cu
 refine ctr_pure Tryz.func25 ok25 rfl cc25 cr25 Tryz.ntmps25 (by simp) rfl rfl ?_;intro c hP hfn;simp only [kc25,slS,dSl,slC,vcd,↓vcp,seval]
 repeat' first|((first|refine tp hP (by exact cu) ?_|refine tg hP (fun _=>by exact cu) ?_|refine tv hP rfl (by exact cu) ?_);try simp only [vcd,↓vcp,seval])|refine ⟨fun h=>?_,fun h=>?_⟩|refine aO ?_|refine aT ?_|fail
 exact RetK.pure (by simp only [rs25,rsb,vcd,↓vcp,seval]) (by (simp only [rs25,rsb,enb,vcd,↓vcp,seval])<;>(first|exact VLe.refl _))
def betF (l:List Sl) (a b:Int):Int×Int:=
 match curS l with
 |none=>(0,1)
 |some P=>if okS a b=false then (0,1) else if (uptoR P b).2≠0 then (0,(uptoR P b).2) else if (uptoR P a).2≠0 then (0,(uptoR P a).2) else (IntKind.i64.wrap ((uptoR P b).1-(uptoR P a).1),0)
def betV (l:List Sl) (a b:Int):V:=if (betF l a b).2=0 then .d (.int .i64 (betF l a b).1) else .un
theorem pan5 {st1:St} (h1:own? st1.own 5=some (.fix [.d (.int .i64 0)])) (h2:Go.Bx.get st1.env 5=.own 5 0) (e:Int):panD Tryz.prog 53 [5] [.tmp 4,.cell 5 1 false] (.tup [.un,.d (.int .i64 e)]) (vErr e) st1:=by
 have ho:own? (applyU st1.own (callU [(5,Go.Bx.Own.fix [.d (.int .i64 0)])] [(5,.fix [.d (.int .i64 e)])])) 5=some (.fix [.d (.int .i64 e)]):=by
  simp only [callU,List.map_cons,List.map_nil,List.append_nil,applyU,own?_setO,vcd,↓vcp,seval]
 refine ⟨[(5,.fix [.d (.int .i64 0)])],[(5,.fix [.d (.int .i64 e)])],dTold1 5 0 e,fun k o hm=>?_,?_,?_⟩
 ·simp only [List.mem_cons,Prod.mk.injEq,List.not_mem_nil,or_false] at hm
  obtain ⟨rfl,rfl⟩:=hm
  exact h1
 ·simp only [ressS,resS,h2,ho]
  simp
 ·simp only [retV,ressV,resV,h2,ho]
  exact VLe.tups ⟨VLe.un _,VLe.refl _,trivial⟩
end Go.Proofs.YtanppabbmffokaaGreat
end
section
namespace Go.Proofs.YtanppabbmffokaaGreat
open Go.Bx
set_option maxRecDepth 10000
def rowH (l:List Ch):Go.Bx.Own:=.row 36 9 l.length (fun i=>dCh (l.getD i default))
theorem sGrowH (n:Nat) (hn:n≤1000000000000):Ctr Tryz.prog 135 [.d (.sl true 0 0 fun _=>[]),.d (.int .i64 (n:Int))] [] (.osl 903) [(903,rowH [])] [903]:=by
 refine ctr_own Tryz.func135 ok135 rfl cc135 cr135 Tryz.ntmps135 (by simp) rfl ?_
 intro c hP hfn
 have e1:IntKind.i64.wrap ((0:Int)-0)=0:=wI (by omega)
 have e0:IntKind.i64.wrap 0=0:=wI (by omega)
 have e2:IntKind.i64.wrap ((n:Int)-0)=(n:Int):=(wI (by omega)).trans (by omega)
 simp only [kc135,namesL,V.names,ownNames,e0,e1,e2,vcd,↓vcp,seval]
 repeat' first|refine ⟨fun h=>?_,fun h=>?_⟩|refine aO ?_|refine aT ?_|fail
 ·exfalso;have:=of_decide_eq_true h;omega
 ·exact RetK.mk _ (Wk.shr 22 903 0 rfl (Nat.zero_le _) (by simp)) (by simp only [rs135,rsb,vcd,↓vcp,seval]) (by simp only [rs135,rsb,enb,vcd,↓vcp,seval]) (by simp only [rowH,enb,vcd,↓vcp,seval];exact OLe.row rfl (fun i hi=>absurd hi (Nat.not_lt_zero i)))
 ·exact RetK.mk _ (Wk.row0 (s:=4) (k:=903) (e:=36) (sz:=9) (f':=fun i=>dCh (([]:List Ch).getD i default)) rfl rfl (by simp)) (by simp only [rs135,rsb,vcd,↓vcp,seval]) (by simp only [rs135,rsb,enb,vcd,↓vcp,seval]) (by simp only [rowH,enb,vcd,↓vcp,seval])
def gH (G:List (List Ch)) (bs:Nat→Bool) (g:Nat→Nat→List D):D:=.sl true 1 G.length (fun i=>[.sl (bs i) 9 (G.getD i []).length (g i)])
theorem flatH_take {G:List (List Ch)} {k:Nat} {g:List Ch} (h:G[k]?=some g):(G.take (k+1)).flatten=(G.take k).flatten++g:=by
 rw [List.take_add_one,h];simp
theorem flatH_le (G:List (List Ch)) (k:Nat):(G.take k).flatten.length≤G.flatten.length:=by
 conv=>rhs;rw [←List.take_append_drop k G,List.flatten_append,List.length_append]
 omega
set_option maxHeartbeats 2000000 in
theorem sConcatH (G:List (List Ch)) (bs:Nat→Bool) (g:Nat→Nat→List D) (hg':∀ i j,i<G.length→j<(G.getD i []).length→g i j=dCh ((G.getD i []).getD j default)) (hG:G.length≤1000000) (hF:G.flatten.length≤1000000000) :
  Ctr Tryz.prog 87 [.d (gH G bs g)] [] (.d (slH G.flatten)) [] []:=by
 refine ctr_pure Tryz.func87 ok87 rfl cc87 cr87 Tryz.ntmps87 (by simp) rfl rfl ?_;intro c hP hfn;simp only [kc87,gH,vcd,↓vcp,seval]
 refine vcC.loop (X:=Nat) (fun k=>⟨[(0,.d (gH G bs g)),(3,.d (.int .i64 (G.take k).flatten.length)),(9,.d (gH G bs g)),(10,.d (.int .i64 G.length)),(11,.d (.int .i64 k))],[],[]⟩)
  (fun k=>k≤G.length) (fun k=>G.length-k) 0 (Nat.zero_le _) (Wk.of _ hfn rfl (by simp only [gH,List.take_zero,List.flatten_nil,enb,vcd,↓vcp,seval]) (by simp only [enb,vcd,↓vcp,seval])) ?_
 rintro k hk
 have hle:=flatH_le G k
 by_cases hlt:k<G.length
 ·obtain ⟨q,hd,hq,hgm,hat⟩:=drop_at hlt
  have hq:=hq []
  have d0:decide ((k:Int)<(G.length:Int))=true:=decide_eq_true (by omega)
  have w1:IntKind.i64.wrap ((k:Int)+1)=((k+1:Nat):Int):=wS (by omega)
  have hfl:=flatH_take hat
  have hle2:=flatH_le G (k+1)
  have hlen:((G.take (k+1)).flatten.length:Int)=(G.take k).flatten.length+q.length:=by rw [hfl,List.length_append];omega
  have ew:IntKind.i64.wrap (((G.take k).flatten.length:Int)+(q.length:Int))=((G.take (k+1)).flatten.length:Int):=by rw [hlen];exact wI (by omega)
  have d1:decide (((G.take (k+1)).flatten.length:Int)<0)=false:=decide_eq_false (by omega)
  simp only [gH,d0,hq,ew,d1,vcd,↓vcp,seval]
  repeat' first|refine ⟨fun h=>?_,fun h=>?_⟩|refine aO ?_|refine aT ?_|fail
  exact lopK.on (k+1) hlt (by omega) (Wk.of _ hfn rfl (by simp only [gH,w1,enb,vcd,↓vcp,seval]) (by simp only [enb,vcd,↓vcp,seval]))
 ·have d0:decide ((k:Int)<(G.length:Int))=false:=decide_eq_false (by omega)
  obtain rfl:k=G.length:=by omega
  have cg:=sGrowH G.flatten.length (by omega)
  simp only [rowH,vcd,↓vcp,seval] at cg
  simp only [gH,d0,List.take_length,vcd,↓vcp,seval]
  repeat' first|refine ⟨fun h=>?_,fun h=>?_⟩|refine aO ?_|refine aT ?_|fail
  refine TR.call [] [(903,rowH [])] _ [903] (by rw [hP];exact cg) (by repeat' first|exact trivial|(intro _;assumption)|apply And.intro) (by simp) (by simp [keysO]) (by simp) ?_
  simp only [rowH,vcd,↓vcp,seval]
  repeat' first|refine ⟨fun h=>?_,fun h=>?_⟩|refine aO ?_|refine aT ?_|fail
  refine vcC.loop (X:=Nat) (fun k=>⟨[(6,.osl 903),(25,.d (gH G bs g)),(26,.d (.int .i64 G.length)),(27,.d (.int .i64 k))],[(903,rowH (G.take k).flatten)],[903]⟩)
   (fun k=>k≤G.length) (fun k=>G.length-k) 0 (Nat.zero_le _) (Wk.of _ hfn rfl (by simp only [gH,enb,vcd,↓vcp,seval]) (by simp only [rowH,List.take_zero,List.flatten_nil,enb,vcd,↓vcp,seval])) ?_
  rintro k hk
  have hle:=flatH_le G k
  by_cases hlt:k<G.length
  ·obtain ⟨q,hd,hq,hgm,hat⟩:=drop_at hlt
   have hq:=hq []
   have hgq:∀ j,j<q.length→g k j=dCh (q.getD j default):=fun j hj=>by have:=hg' k j hlt (by rw [hq];exact hj);rw [hq] at this;exact this
   have d1:decide ((k:Int)<(G.length:Int))=true:=decide_eq_true (by omega)
   have w1:IntKind.i64.wrap ((k:Int)+1)=((k+1:Nat):Int):=wS (by omega)
   have hfl:=flatH_take hat
   have hle2:=flatH_le G (k+1)
   have hlen:(G.take (k+1)).flatten.length=(G.take k).flatten.length+q.length:=by rw [hfl,List.length_append]
   have hroom:((G.take k).flatten.length+q.length)*88≤140737488355328∧(G.take k).flatten.length+q.length≤maxLen:=⟨by omega,by simp only [maxLen];omega⟩
   simp only [gH,rowH,d1,hq,vcd,↓vcp,seval]
   repeat' first|refine ⟨fun h=>?_,fun h=>?_⟩|refine aO ?_|refine aT ?_|fail
   exact lopK.on (k+1) hlt (by omega) ((Wk.sw 33 903 _ hfn (by simp) (by simp)).trans (Wk.of _ hfn rfl (by simp only [gH,w1,enb,vcd,↓vcp,seval]) (by simp only [rowH,hfl,enb,vcd,↓vcp,seval];exact OLe.appL dCh rfl (fun i hi=>by rw [if_pos hi]) (fun i hi=>by rw [if_neg (by omega),Nat.add_sub_cancel_left];exact hgq i hi))))
  ·have d1:decide ((k:Int)<(G.length:Int))=false:=decide_eq_false (by omega)
   obtain rfl:k=G.length:=by omega
   simp only [gH,rowH,d1,List.take_length,vcd,↓vcp,seval]
   repeat' first|refine ⟨fun h=>?_,fun h=>?_⟩|refine aO ?_|refine aT ?_|fail
   refine RetK.mk _ (Wk.pub 903 rfl) (by simp only [rs87,rsb,vcd,↓vcp,seval]) ?_ trivial
   simp only [rs87,rsb,vcd,↓vcp,seval,slH,enb,vcd,↓vcp,seval]
end Go.Proofs.YtanppabbmffokaaGreat
end
